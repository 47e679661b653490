/- Audit: AuditPages. -/
import Derived.Test.YtlnkiclnofgagaaS1Aud2
set_option linter.unusedSimpArgs false
set_option linter.unusedVariables false
set_option maxRecDepth 10000
namespace Go.Proofs
open Go.Ns

theorem grc_app2 {h : Heap} {N e m bytes : Nat} {C new : List NV} {v x : NV} {K : NV → Heap → Prop} {t : Tg K} (g : GrC h N C e v) (hN : N ≤ h.length) (hx : sliceCells h e x = some new) (hm : lenOfSl x = some m) (h0 : 0 < m) (he : 0 < e) (hnew : new.length = m * e)
    (hC : C.length ≤ 1000) (hm2 : m ≤ 1000) (hb : bytes ≤ 10000)
    (k : ∀ v' h', GrC h' N (C ++ new) e v' → h'.length = h.length + 1 → (∀ b, b < N → hget h' b = hget h b) → (∀ b, b < h.length → (∀ o n c, v ≠ .slice (some (b, o)) n c) → hget h' b = hget h b) → K v' h') : optB (nappendS h e bytes v x) K t := by
  have hbm : ∀ a : Nat, a ≤ 2000 → a * bytes ≤ 140737488355328 := fun a ha => Nat.le_trans (Nat.mul_le_mul ha hb) (by omega)
  have hne : new ≠ [] := by
    intro e1
    rw [e1] at hnew
    have := Nat.mul_pos h0 he
    simp at hnew
    omega
  rcases g with ⟨rfl, rfl⟩ | ⟨b, l, rfl, h3, h4, h5, h6⟩
  · refine app_nil hx hm h0 ⟨hbm m (by omega), by omega⟩ (k _ _ (.inr ⟨h.length, m, rfl, hN, by rw [List.nil_append]; exact hget_append_new, by rw [List.nil_append]; exact hnew, h0⟩) (by simp) (fun b hb => hget_appl (by omega)) (fun b hb _ => hget_appl hb))
  · have hl : l ≤ C.length := by rw [h5]; exact Nat.le_mul_of_pos_right l he
    have hml : (l + m) * e = C.length + new.length := by rw [Nat.add_mul, h5, hnew]
    have hpos : 0 < new.length := List.length_pos_iff.2 hne
    refine app_grow hx hm h4 hne (by rw [hml]; omega) (by omega) ⟨hbm _ (by omega), by omega⟩ (k _ _ (.inr ⟨h.length, l + m, rfl, hN, ?_, ?_, by omega⟩) (by simp) (fun b' hb' => ?_) (fun b' hb' hne' => ?_))
    · have := hget_append_new (h := hkill h b) (o := some (NBlk.cells (List.take (l * e) (List.drop 0 C) ++ new) false))
      rw [length_hkill] at this
      rw [this, List.drop_zero, List.take_of_length_le (by omega)]
    · rw [List.length_append, hml]
    · rw [hget_appl (by rw [length_hkill]; omega), hget_hkill_ne (by omega)]
    · have : b' ≠ b := fun e => hne' 0 l (.opn _) (by rw [e])
      rw [hget_appl (by rw [length_hkill]; omega), hget_hkill_ne (by omega)]

/-! ### Pages -/
theorem allRecs_get (xs : List Int) (i : Nat) (hi : i < (allRecs xs).length) : (allRecs xs)[i].num = i + 1 := by
  simp [allRecs, mkRec]
theorem allRecs_asc (xs : List Int) : (allRecs xs).Pairwise fun a b => a.num < b.num := by
  rw [List.pairwise_iff_getElem]
  intro i j hi hj hij
  rw [allRecs_get, allRecs_get]; omega
theorem allRecs_range (xs : List Int) : ∀ x ∈ allRecs xs, 1 ≤ x.num ∧ x.num ≤ xs.length := by
  intro x hx
  obtain ⟨i, hi, rfl⟩ := List.getElem_of_mem hx
  rw [allRecs_get]
  rw [allRecs_length] at hi
  omega
theorem filter_behind {X Y : List Rec} {x : Rec} (h : (X ++ x :: Y).Pairwise fun a b => a.num < b.num) : (X ++ x :: Y).filter (fun y => decide (x.num + 1 ≤ y.num)) = Y := by
  rw [List.pairwise_append, List.pairwise_cons] at h
  obtain ⟨_, ⟨h2, _⟩, h3⟩ := h
  rw [List.filter_append, List.filter_cons]
  have e1 : X.filter (fun y => decide (x.num + 1 ≤ y.num)) = [] := by
    rw [List.filter_eq_nil_iff]
    intro y hy
    have := h3 y hy x (List.mem_cons_self ..)
    simp; omega
  have e2 : Y.filter (fun y => decide (x.num + 1 ≤ y.num)) = Y := by
    rw [List.filter_eq_self]
    intro y hy
    have := h2 y hy
    simp; omega
  rw [e1, e2, if_neg (by simp; omega)]; rfl
theorem selR_all (rs : List Rec) (r fr c : Int) (h : ∀ x ∈ rs, 1 ≤ x.num) (hf : 0 ≤ fr) : selR rs r fr c = ((rs.filter (selP r 0)).filter (fun y => decide (fr ≤ y.num))).take c.toNat := by
  unfold selR
  rw [List.filter_filter]
  congr 1
  apply List.filter_congr
  intro x hx
  have := h x hx
  unfold selP
  rw [decide_eq_true (show (0 : Int) ≤ x.num by omega), Bool.true_and]

set_option maxHeartbeats 2000000 in
theorem pages_ok (H : Heap) (v w : NV) (xs ys : List Int) (hv : BytesArg H v xs) (hw : BytesArg H w ys) (size rl : Int) (hz : 0 ≤ size ∧ size ≤ 255) (hrl : 0 ≤ rl ∧ rl ≤ 255) : NFun Try.prog 9 [v, w, .int .u8 size, .int .u8 rl] H fun q => q.1 = .bool true := by
  refine fun_of_fwp E0 mixed t9_ok.2 (by kernel_rfl) ?_
  rw [fwp_T]
  simp only [t9]
  simp (disch := first | omega | (simp only [List.length_append, List.length_cons, List.length_nil, length_hset, length_hkill]; omega)) only [↓fsPre, fsPost, fsCond, fsGen, npick, nbin, nun, nconv, nnilCheck, noff, nidxArr, nidxSl, nfield, npart, nindex, nextract, nlenSl, nlenStr, ncap, mmx, minmax2, nslice, nsliceArr, nbounds, obound, bound, adv, nbits, eqVal, eqCell, eqCells, nfill, lenOfSl, cls, fresults, fresl, fres1, gt_iff_lt, ge_iff_le, reduceCtorEq, Nat.reduceAdd, Nat.reduceMul, Nat.reduceSub, Nat.reduceLT, Nat.reduceLeDiff, Nat.reduceEqDiff, Nat.reduceBEq, Nat.reduceBNe, Int.reduceLT, Int.reduceLE, Int.reduceEq, Int.reduceNe, Int.reduceAdd, Int.reduceSub, Int.reduceNeg, Int.reduceToNat, Int.reduceMul, ↓reduceIte, Int.reduceGT, Int.reduceGE]
  refine callT_D (codes_ok H v xs 120 hv (by omega)) rfl ?_
  rintro v1 g1 ⟨sl, m, e, hs⟩
  cases e
  simp (disch := first | omega | (simp only [List.length_append, List.length_cons, List.length_nil, length_hset, length_hkill]; omega)) only [↓fsPre, fsPost, fsCond, fsGen, npick, nbin, nun, nconv, nnilCheck, noff, nidxArr, nidxSl, nfield, npart, nindex, nextract, nlenSl, nlenStr, ncap, mmx, minmax2, nslice, nsliceArr, nbounds, obound, bound, adv, nbits, eqVal, eqCell, eqCells, nfill, lenOfSl, cls, fresults, fresl, fres1, gt_iff_lt, ge_iff_le, reduceCtorEq, Nat.reduceAdd, Nat.reduceMul, Nat.reduceSub, Nat.reduceLT, Nat.reduceLeDiff, Nat.reduceEqDiff, Nat.reduceBEq, Nat.reduceBNe, Int.reduceLT, Int.reduceLE, Int.reduceEq, Int.reduceNe, Int.reduceAdd, Int.reduceSub, Int.reduceNeg, Int.reduceToNat, Int.reduceMul, ↓reduceIte, Int.reduceGT, Int.reduceGE]
  refine callT_D (schema_ok _ _ m sl (CodesSt.refl hget_append_new (by omega) (by omega) hs)) rfl ?_
  rintro v2 g2 hq
  obtain ⟨b, q, z0, z1, z2, z3, z4, z5, z7, z8, z9, rfl, sch, hb, hqr, hg2, hold⟩ := hq.roles
  obtain ⟨o0, o1, o2, o3, o4, o5, o7, o8, o9⟩ := sch.2.2.2.2.2.2.2
  simp only [List.length_append, List.length_cons, List.length_nil] at hg2 hold
  have hw2 : BytesArg g2 w ys := bytes_mono hw fun b hb => by rw [hold b (by omega) (by omega), hget_appl hb]
  clear hq hs hold
  simp (disch := first | omega | (simp only [List.length_append, List.length_cons, List.length_nil, length_hset, length_hkill]; omega)) only [↓fsPre, fsPost, fsCond, fsGen, npick, nbin, nun, nconv, nnilCheck, noff, nidxArr, nidxSl, nfield, npart, nindex, nextract, nlenSl, nlenStr, ncap, mmx, minmax2, nslice, nsliceArr, nbounds, obound, bound, adv, nbits, eqVal, eqCell, eqCells, nfill, lenOfSl, cls, fresults, fresl, fres1, gt_iff_lt, ge_iff_le, reduceCtorEq, Nat.reduceAdd, Nat.reduceMul, Nat.reduceSub, Nat.reduceLT, Nat.reduceLeDiff, Nat.reduceEqDiff, Nat.reduceBEq, Nat.reduceBNe, Int.reduceLT, Int.reduceLE, Int.reduceEq, Int.reduceNe, Int.reduceAdd, Int.reduceSub, Int.reduceNeg, Int.reduceToNat, Int.reduceMul, ↓reduceIte, Int.reduceGT, Int.reduceGE, o0, o1, o2, o3, o4, o5, o7, o8, o9]
  refine callT_D (logcall_ok _ w ys hw2.app) rfl ?_
  rintro v3 g3 ⟨s1, s2, rfl, r1, r2, len, old⟩
  have hlen : (ys.take 60).length ≤ 60 := by simp; omega
  generalize ys.take 60 = ks at *
  simp only [List.length_append, List.length_cons, List.length_nil] at len old
  have e0 := old g2.length (by omega)
  simp (disch := first | omega | (simp only [List.length_append, List.length_cons, List.length_nil, length_hset, length_hkill]; omega)) only [↓fsPre, fsPost, fsCond, fsGen, npick, nbin, nun, nconv, nnilCheck, noff, nidxArr, nidxSl, nfield, npart, nindex, nextract, nlenSl, nlenStr, ncap, mmx, minmax2, nslice, nsliceArr, nbounds, obound, bound, adv, nbits, eqVal, eqCell, eqCells, nfill, lenOfSl, cls, fresults, fresl, fres1, gt_iff_lt, ge_iff_le, reduceCtorEq, Nat.reduceAdd, Nat.reduceMul, Nat.reduceSub, Nat.reduceLT, Nat.reduceLeDiff, Nat.reduceEqDiff, Nat.reduceBEq, Nat.reduceBNe, Int.reduceLT, Int.reduceLE, Int.reduceEq, Int.reduceNe, Int.reduceAdd, Int.reduceSub, Int.reduceNeg, Int.reduceToNat, Int.reduceMul, ↓reduceIte, Int.reduceGT, Int.reduceGE] at e0
  have sch3 : RSch g3 b q z0 z1 z2 z3 z4 z5 z7 z8 z9 := sch.mono fun b hb => by rw [old b (by omega), hget_appl hb]
  have os1 := r1.at.one
  have os2 := r2.at.one
  generalize hnx : (if ks.length = 0 then (0 : Int) else (ks.length : Int) + 1) = nx
  have hall : (allRecs ks).length ≤ 60 := by rw [allRecs_length]; exact hlen
  have hasc := allRecs_asc ks
  have hrng := allRecs_range ks
  generalize allRecs ks = all at *
  obtain ⟨m0, m1⟩ := tmod_bounds rl 3 hrl.1 (by omega)
  obtain ⟨r, hr, hr1⟩ : ∃ r, ([.int .i64 1, .int .i64 2, .int .i64 7] : List NV)[(Int.tmod rl 3).toNat]? = some (.int .i64 r) ∧ ¬ rix r < 0 := by
    have : Int.tmod rl 3 = 0 ∨ Int.tmod rl 3 = 1 ∨ Int.tmod rl 3 = 2 := by omega
    rcases this with e | e | e <;> rw [e]
    · exact ⟨1, rfl, by decide⟩
    · exact ⟨2, rfl, by decide⟩
    · exact ⟨7, rfl, by decide⟩
  obtain ⟨m2, m3⟩ := tmod_bounds size 5 hz.1 (by omega)
  simp (disch := first | omega | (simp only [List.length_append, List.length_cons, List.length_nil, length_hset, length_hkill]; omega)) only [↓fsPre, fsPost, fsCond, fsGen, npick, nbin, nun, nconv, nnilCheck, noff, nidxArr, nidxSl, nfield, npart, nindex, nextract, nlenSl, nlenStr, ncap, mmx, minmax2, nslice, nsliceArr, nbounds, obound, bound, adv, nbits, eqVal, eqCell, eqCells, nfill, lenOfSl, cls, fresults, fresl, fres1, gt_iff_lt, ge_iff_le, reduceCtorEq, Nat.reduceAdd, Nat.reduceMul, Nat.reduceSub, Nat.reduceLT, Nat.reduceLeDiff, Nat.reduceEqDiff, Nat.reduceBEq, Nat.reduceBNe, Int.reduceLT, Int.reduceLE, Int.reduceEq, Int.reduceNe, Int.reduceAdd, Int.reduceSub, Int.reduceNeg, Int.reduceToNat, Int.reduceMul, ↓reduceIte, Int.reduceGT, Int.reduceGE, os1, os2, e0, hr]
  have st0 : RdS g2.length g3.length (g3.length + 1) b q z0 z1 z2 z3 z4 z5 z7 z8 z9 nx s1 s2 all (g3 ++ [some (.cells [.int .i64 nx, s1] false), some (.cells [s2] false), some (.cells [.int .i64 1, .int .i64 2, .int .i64 7] false)]) :=
    ⟨by simp (disch := first | omega | (simp only [List.length_append, List.length_cons, List.length_nil, length_hset, length_hkill]; omega)) only [↓fsPre, fsPost, fsCond, fsGen, npick, nbin, nun, nconv, nnilCheck, noff, nidxArr, nidxSl, nfield, npart, nindex, nextract, nlenSl, nlenStr, ncap, mmx, minmax2, nslice, nsliceArr, nbounds, obound, bound, adv, nbits, eqVal, eqCell, eqCells, nfill, lenOfSl, cls, fresults, fresl, fres1, gt_iff_lt, ge_iff_le, reduceCtorEq, Nat.reduceAdd, Nat.reduceMul, Nat.reduceSub, Nat.reduceLT, Nat.reduceLeDiff, Nat.reduceEqDiff, Nat.reduceBEq, Nat.reduceBNe, Int.reduceLT, Int.reduceLE, Int.reduceEq, Int.reduceNe, Int.reduceAdd, Int.reduceSub, Int.reduceNeg, Int.reduceToNat, Int.reduceMul, ↓reduceIte, Int.reduceGT, Int.reduceGE, e0], by simp (disch := first | omega | (simp only [List.length_append, List.length_cons, List.length_nil, length_hset, length_hkill]; omega)) only [↓fsPre, fsPost, fsCond, fsGen, npick, nbin, nun, nconv, nnilCheck, noff, nidxArr, nidxSl, nfield, npart, nindex, nextract, nlenSl, nlenStr, ncap, mmx, minmax2, nslice, nsliceArr, nbounds, obound, bound, adv, nbits, eqVal, eqCell, eqCells, nfill, lenOfSl, cls, fresults, fresl, fres1, gt_iff_lt, ge_iff_le, reduceCtorEq, Nat.reduceAdd, Nat.reduceMul, Nat.reduceSub, Nat.reduceLT, Nat.reduceLeDiff, Nat.reduceEqDiff, Nat.reduceBEq, Nat.reduceBNe, Int.reduceLT, Int.reduceLE, Int.reduceEq, Int.reduceNe, Int.reduceAdd, Int.reduceSub, Int.reduceNeg, Int.reduceToNat, Int.reduceMul, ↓reduceIte, Int.reduceGT, Int.reduceGE], by simp (disch := first | omega | (simp only [List.length_append, List.length_cons, List.length_nil, length_hset, length_hkill]; omega)) only [↓fsPre, fsPost, fsCond, fsGen, npick, nbin, nun, nconv, nnilCheck, noff, nidxArr, nidxSl, nfield, npart, nindex, nextract, nlenSl, nlenStr, ncap, mmx, minmax2, nslice, nsliceArr, nbounds, obound, bound, adv, nbits, eqVal, eqCell, eqCells, nfill, lenOfSl, cls, fresults, fresl, fres1, gt_iff_lt, ge_iff_le, reduceCtorEq, Nat.reduceAdd, Nat.reduceMul, Nat.reduceSub, Nat.reduceLT, Nat.reduceLeDiff, Nat.reduceEqDiff, Nat.reduceBEq, Nat.reduceBNe, Int.reduceLT, Int.reduceLE, Int.reduceEq, Int.reduceNe, Int.reduceAdd, Int.reduceSub, Int.reduceNeg, Int.reduceToNat, Int.reduceMul, ↓reduceIte, Int.reduceGT, Int.reduceGE], sch3.mono fun b hb => hget_appl hb, (r1.low (by omega)).app, (r2.low (by omega)).app⟩
  refine callT_D (records_ok _ nx s1 (last24 all) b q z0 z1 z2 z3 z4 z5 z7 z8 z9 r 0 24 st0.sch st0.r1.at.rows (by rw [last24_length]; omega)) rfl ?_
  rintro v4 g4 ⟨va, L1, e, hva⟩
  cases e
  have he0 : recE r 0 24 = 0 := by unfold recE; rw [if_neg hr1, if_neg (by omega)]
  have hA0 : recL (last24 all) r 0 24 = (last24 all).filter (selP r 0) := by
    unfold recL selR
    rw [if_pos he0, List.take_of_length_le]
    have := List.length_filter_le (selP r 0) (last24 all)
    rw [last24_length] at this
    simp only [Int.reduceToNat]; omega
  rw [hA0] at hva
  have hsel : ∀ fr c, 0 ≤ fr → selR (last24 all) r fr c = (((last24 all).filter (selP r 0)).filter (fun y => decide (fr ≤ y.num))).take c.toNat := fun fr c hf => selR_all _ _ _ _ (fun x hx => (hrng x (List.mem_of_mem_drop hx)).1) hf
  have hAasc : ((last24 all).filter (selP r 0)).Pairwise fun a b => a.num < b.num := (hasc.sublist (List.drop_sublist ..)).sublist (List.filter_sublist ..)
  have hAr : ∀ x ∈ (last24 all).filter (selP r 0), 1 ≤ x.num ∧ x.num ≤ 60 := fun x hx => by
    have := hrng x (List.mem_of_mem_drop (List.mem_filter.1 hx).1)
    omega
  have hAl : ((last24 all).filter (selP r 0)).length ≤ 24 := by
    have := List.length_filter_le (selP r 0) (last24 all)
    rw [last24_length] at this
    omega
  have st1 := st0.mono (h' := g3 ++ [some (.cells [.int .i64 nx, s1] false), some (.cells [s2] false), some (.cells [.int .i64 1, .int .i64 2, .int .i64 7] false)] ++ L1) fun b hb => hget_appl hb
  have hva1 := (hva.low (Nat.zero_le _))
  clear st0 hva hA0
  generalize g3 ++ [some (.cells [.int .i64 nx, s1] false), some (.cells [s2] false), some (.cells [.int .i64 1, .int .i64 2, .int .i64 7] false)] ++ L1 = G at *
  generalize hAd : (last24 all).filter (selP r 0) = A at *
  generalize g2.length = p9 at *
  generalize g3.length = p10 at *
  rw [he0]
  have ova := hva1.at.one
  simp (disch := first | omega | (simp only [List.length_append, List.length_cons, List.length_nil, length_hset, length_hkill]; omega)) only [↓fsPre, fsPost, fsCond, fsGen, npick, nbin, nun, nconv, nnilCheck, noff, nidxArr, nidxSl, nfield, npart, nindex, nextract, nlenSl, nlenStr, ncap, mmx, minmax2, nslice, nsliceArr, nbounds, obound, bound, adv, nbits, eqVal, eqCell, eqCells, nfill, lenOfSl, cls, fresults, fresl, fres1, gt_iff_lt, ge_iff_le, reduceCtorEq, Nat.reduceAdd, Nat.reduceMul, Nat.reduceSub, Nat.reduceLT, Nat.reduceLeDiff, Nat.reduceEqDiff, Nat.reduceBEq, Nat.reduceBNe, Int.reduceLT, Int.reduceLE, Int.reduceEq, Int.reduceNe, Int.reduceAdd, Int.reduceSub, Int.reduceNeg, Int.reduceToNat, Int.reduceMul, ↓reduceIte, Int.reduceGT, Int.reduceGE, he0]
  refine wloop (fun j F h => F 2 = .int .u8 size ∧ F 9 = .ptr (some (p9, 0)) ∧ F 10 = .ptr (some (p10, 0)) ∧ F 12 = .int .i64 r ∧ F 13 = va ∧ F 17 = .int .i64 j ∧ G.length ≤ h.length ∧ (∀ b, b < G.length → hget h b = hget G b) ∧
    ∃ fr X Y, F 16 = .int .i64 fr ∧ 0 ≤ fr ∧ fr ≤ 61 ∧ A = X ++ Y ∧ A.filter (fun y => decide (fr ≤ y.num)) = Y ∧ j ≤ X.length ∧ GrC h G.length (recs X) 7 (F 15)) 25 ?_ ?_ ?_
  · simp (disch := first | omega | (simp only [List.length_append, List.length_cons, List.length_nil, length_hset, length_hkill]; omega)) only [↓fsPre, fsPost, fsCond, fsGen, npick, nbin, nun, nconv, nnilCheck, noff, nidxArr, nidxSl, nfield, npart, nindex, nextract, nlenSl, nlenStr, ncap, mmx, minmax2, nslice, nsliceArr, nbounds, obound, bound, adv, nbits, eqVal, eqCell, eqCells, nfill, lenOfSl, cls, fresults, fresl, fres1, gt_iff_lt, ge_iff_le, reduceCtorEq, Nat.reduceAdd, Nat.reduceMul, Nat.reduceSub, Nat.reduceLT, Nat.reduceLeDiff, Nat.reduceEqDiff, Nat.reduceBEq, Nat.reduceBNe, Int.reduceLT, Int.reduceLE, Int.reduceEq, Int.reduceNe, Int.reduceAdd, Int.reduceSub, Int.reduceNeg, Int.reduceToNat, Int.reduceMul, ↓reduceIte, Int.reduceGT, Int.reduceGE]
    refine ⟨0, [], A, rfl, by omega, by omega, by simp, ?_, Nat.le_refl _, .nil⟩
    rw [List.filter_eq_self]
    intro y hy
    have := hAr y hy
    simp; omega
  · rintro j F h hj ⟨f2, f9, f10, f12, f13, f17, hl, ho, fr, X, Y, f16, hf0, hf1, hXY, hY, hjX, out⟩
    have st := st1.mono ho
    have b9 := st.b11
    have b10 := st.b12
    have l9 := hget_some_lt b9
    have l10 := hget_some_lt b10
    simp (disch := first | omega | (simp only [List.length_append, List.length_cons, List.length_nil, length_hset, length_hkill]; omega)) only [↓fsPre, fsPost, fsCond, fsGen, npick, nbin, nun, nconv, nnilCheck, noff, nidxArr, nidxSl, nfield, npart, nindex, nextract, nlenSl, nlenStr, ncap, mmx, minmax2, nslice, nsliceArr, nbounds, obound, bound, adv, nbits, eqVal, eqCell, eqCells, nfill, lenOfSl, cls, fresults, fresl, fres1, gt_iff_lt, ge_iff_le, reduceCtorEq, Nat.reduceAdd, Nat.reduceMul, Nat.reduceSub, Nat.reduceLT, Nat.reduceLeDiff, Nat.reduceEqDiff, Nat.reduceBEq, Nat.reduceBNe, Int.reduceLT, Int.reduceLE, Int.reduceEq, Int.reduceNe, Int.reduceAdd, Int.reduceSub, Int.reduceNeg, Int.reduceToNat, Int.reduceMul, ↓reduceIte, Int.reduceGT, Int.reduceGE, f2, f9, f10, f12, f13, f16, f17, b9, b10]
    refine callT_D (records_ok h nx s1 (last24 all) b q z0 z1 z2 z3 z4 z5 z7 z8 z9 r fr (1 + Int.tmod size 5) st.sch st.r1.at.rows (by rw [last24_length]; omega)) rfl ?_
    rintro v5 g5 ⟨vl, L2, e, hvl⟩
    cases e
    have he1 : recE r fr (1 + Int.tmod size 5) = 0 := by unfold recE; rw [if_neg hr1, if_neg (by omega)]
    have hL : recL (last24 all) r fr (1 + Int.tmod size 5) = Y.take (1 + Int.tmod size 5).toNat := by
      unfold recL
      rw [if_pos he1, hsel fr _ hf0, hY]
    rw [hL] at hvl
    rw [he1]
    have hc : 1 ≤ (1 + Int.tmod size 5).toNat ∧ (1 + Int.tmod size 5).toNat ≤ 5 := by omega
    generalize (1 + Int.tmod size 5).toNat = c at *
    have out2 : GrC (h ++ L2) G.length (recs X) 7 (F 15) := out.ext Ext.app
    rcases hvl with ⟨rfl, hnil⟩ | ⟨bl, rfl, hbl, hcl⟩
    · have hY0 : Y = [] := by
        cases Y with
        | nil => rfl
        | cons y Y =>
          have := congrArg List.length hnil
          simp at this; omega
      rw [hY0, List.append_nil] at hXY
      have hXl : X.length ≤ 1000 := by rw [← hXY]; omega
      have hva2 : RecsAt (h ++ L2) va X := by
        rw [← hXY]
        exact ((hva1.mono ho).app).at
      have hsame := sameE_ok (h ++ L2) (F 15) va X (grc_recs out2).at hva2 hXl
      simp (disch := first | omega | (simp only [List.length_append, List.length_cons, List.length_nil, length_hset, length_hkill]; omega)) only [↓fsPre, fsPost, fsCond, fsGen, npick, nbin, nun, nconv, nnilCheck, noff, nidxArr, nidxSl, nfield, npart, nindex, nextract, nlenSl, nlenStr, ncap, mmx, minmax2, nslice, nsliceArr, nbounds, obound, bound, adv, nbits, eqVal, eqCell, eqCells, nfill, lenOfSl, cls, fresults, fresl, fres1, gt_iff_lt, ge_iff_le, reduceCtorEq, Nat.reduceAdd, Nat.reduceMul, Nat.reduceSub, Nat.reduceLT, Nat.reduceLeDiff, Nat.reduceEqDiff, Nat.reduceBEq, Nat.reduceBNe, Int.reduceLT, Int.reduceLE, Int.reduceEq, Int.reduceNe, Int.reduceAdd, Int.reduceSub, Int.reduceNeg, Int.reduceToNat, Int.reduceMul, ↓reduceIte, Int.reduceGT, Int.reduceGE, f2, f9, f10, f12, f13, f16, f17, b9, b10]
      refine callT_one hsame rfl ?_
      simp (disch := first | omega | (simp only [List.length_append, List.length_cons, List.length_nil, length_hset, length_hkill]; omega)) only [↓fsPre, fsPost, fsCond, fsGen, npick, nbin, nun, nconv, nnilCheck, noff, nidxArr, nidxSl, nfield, npart, nindex, nextract, nlenSl, nlenStr, ncap, mmx, minmax2, nslice, nsliceArr, nbounds, obound, bound, adv, nbits, eqVal, eqCell, eqCells, nfill, lenOfSl, cls, fresults, fresl, fres1, gt_iff_lt, ge_iff_le, reduceCtorEq, Nat.reduceAdd, Nat.reduceMul, Nat.reduceSub, Nat.reduceLT, Nat.reduceLeDiff, Nat.reduceEqDiff, Nat.reduceBEq, Nat.reduceBNe, Int.reduceLT, Int.reduceLE, Int.reduceEq, Int.reduceNe, Int.reduceAdd, Int.reduceSub, Int.reduceNeg, Int.reduceToNat, Int.reduceMul, ↓reduceIte, Int.reduceGT, Int.reduceGE]
      refine callT_one (begun24_ok _) rfl ?_
      simp (disch := first | omega | (simp only [List.length_append, List.length_cons, List.length_nil, length_hset, length_hkill]; omega)) only [↓fsPre, fsPost, fsCond, fsGen, npick, nbin, nun, nconv, nnilCheck, noff, nidxArr, nidxSl, nfield, npart, nindex, nextract, nlenSl, nlenStr, ncap, mmx, minmax2, nslice, nsliceArr, nbounds, obound, bound, adv, nbits, eqVal, eqCell, eqCells, nfill, lenOfSl, cls, fresults, fresl, fres1, gt_iff_lt, ge_iff_le, reduceCtorEq, Nat.reduceAdd, Nat.reduceMul, Nat.reduceSub, Nat.reduceLT, Nat.reduceLeDiff, Nat.reduceEqDiff, Nat.reduceBEq, Nat.reduceBNe, Int.reduceLT, Int.reduceLE, Int.reduceEq, Int.reduceNe, Int.reduceAdd, Int.reduceSub, Int.reduceNeg, Int.reduceToNat, Int.reduceMul, ↓reduceIte, Int.reduceGT, Int.reduceGE]
    · have hll : (Y.take c).length ≤ 5 := by rw [List.length_take]; omega
      by_cases hY0 : Y = []
      · have hlen0 : (Y.take c).length = 0 := by rw [hY0]; simp
        rw [hY0, List.append_nil] at hXY
        have hXl : X.length ≤ 1000 := by rw [← hXY]; omega
        have hva2 : RecsAt (h ++ L2) va X := by
          rw [← hXY]
          exact ((hva1.mono ho).app).at
        have hsame := sameE_ok (h ++ L2) (F 15) va X (grc_recs out2).at hva2 hXl
        simp (disch := first | omega | (simp only [List.length_append, List.length_cons, List.length_nil, length_hset, length_hkill]; omega)) only [↓fsPre, fsPost, fsCond, fsGen, npick, nbin, nun, nconv, nnilCheck, noff, nidxArr, nidxSl, nfield, npart, nindex, nextract, nlenSl, nlenStr, ncap, mmx, minmax2, nslice, nsliceArr, nbounds, obound, bound, adv, nbits, eqVal, eqCell, eqCells, nfill, lenOfSl, cls, fresults, fresl, fres1, gt_iff_lt, ge_iff_le, reduceCtorEq, Nat.reduceAdd, Nat.reduceMul, Nat.reduceSub, Nat.reduceLT, Nat.reduceLeDiff, Nat.reduceEqDiff, Nat.reduceBEq, Nat.reduceBNe, Int.reduceLT, Int.reduceLE, Int.reduceEq, Int.reduceNe, Int.reduceAdd, Int.reduceSub, Int.reduceNeg, Int.reduceToNat, Int.reduceMul, ↓reduceIte, Int.reduceGT, Int.reduceGE, f2, f9, f10, f12, f13, f16, f17, b9, b10, hlen0]
        refine callT_one hsame rfl ?_
        simp (disch := first | omega | (simp only [List.length_append, List.length_cons, List.length_nil, length_hset, length_hkill]; omega)) only [↓fsPre, fsPost, fsCond, fsGen, npick, nbin, nun, nconv, nnilCheck, noff, nidxArr, nidxSl, nfield, npart, nindex, nextract, nlenSl, nlenStr, ncap, mmx, minmax2, nslice, nsliceArr, nbounds, obound, bound, adv, nbits, eqVal, eqCell, eqCells, nfill, lenOfSl, cls, fresults, fresl, fres1, gt_iff_lt, ge_iff_le, reduceCtorEq, Nat.reduceAdd, Nat.reduceMul, Nat.reduceSub, Nat.reduceLT, Nat.reduceLeDiff, Nat.reduceEqDiff, Nat.reduceBEq, Nat.reduceBNe, Int.reduceLT, Int.reduceLE, Int.reduceEq, Int.reduceNe, Int.reduceAdd, Int.reduceSub, Int.reduceNeg, Int.reduceToNat, Int.reduceMul, ↓reduceIte, Int.reduceGT, Int.reduceGE]
        refine callT_one (begun24_ok _) rfl ?_
        simp (disch := first | omega | (simp only [List.length_append, List.length_cons, List.length_nil, length_hset, length_hkill]; omega)) only [↓fsPre, fsPost, fsCond, fsGen, npick, nbin, nun, nconv, nnilCheck, noff, nidxArr, nidxSl, nfield, npart, nindex, nextract, nlenSl, nlenStr, ncap, mmx, minmax2, nslice, nsliceArr, nbounds, obound, bound, adv, nbits, eqVal, eqCell, eqCells, nfill, lenOfSl, cls, fresults, fresl, fres1, gt_iff_lt, ge_iff_le, reduceCtorEq, Nat.reduceAdd, Nat.reduceMul, Nat.reduceSub, Nat.reduceLT, Nat.reduceLeDiff, Nat.reduceEqDiff, Nat.reduceBEq, Nat.reduceBNe, Int.reduceLT, Int.reduceLE, Int.reduceEq, Int.reduceNe, Int.reduceAdd, Int.reduceSub, Int.reduceNeg, Int.reduceToNat, Int.reduceMul, ↓reduceIte, Int.reduceGT, Int.reduceGE]
      · have hpos : 0 < (Y.take c).length := by
          rw [List.length_take]
          have := List.length_pos_iff.2 hY0
          omega
        have hXl : X.length ≤ 24 := by
          have := congrArg List.length hXY
          rw [List.length_append] at this
          omega
        obtain ⟨Z, x, hZ⟩ : ∃ Z x, Y.take c = Z ++ [x] := by
          rcases List.eq_nil_or_concat (Y.take c) with h0 | ⟨Z, x, h0⟩
          · rw [h0] at hpos; simp at hpos
          · exact ⟨Z, x, by rw [h0, List.concat_eq_append]⟩
        have hZl : (Y.take c).length = Z.length + 1 := by rw [hZ]; simp
        have hYd : Y = Z ++ x :: Y.drop c := by
          conv => lhs; rw [← List.take_append_drop c Y]
          rw [hZ]; simp
        have hxr := hAr x (by rw [hXY, hYd]; simp)
        have hcut : cut (recs (Z ++ [x])) (Z.length * 7) 7 = some x.cells := by
          have := recs_cut (Z ++ [x]) Z.length (by simp)
          rw [this]; simp
        have hx0 : (recs (Z ++ [x]))[Z.length * 7]? = some (.int .i64 x.num) := by
          have := cut_get hcut (i := 0) (by omega)
          rw [Nat.add_zero] at this
          rw [this]; rfl
        rw [hZ] at hcl hZl
        have hsc : sliceCells (h ++ L2) 7 (.slice (some (bl, 0)) (Y.take c).length (.opn 7)) = some (recs (Z ++ [x])) := sliceCells_at hcl (cut_all (by rw [recs_length, hZ]))
        rw [hZ] at hsc
        have hbll := hget_some_lt hcl
        have hneq : ∀ o n c, F 15 ≠ .slice (some (bl, o)) n c := by
          intro o n c e
          rcases out with ⟨_, h2⟩ | ⟨b2, k2, h2, _, h3, _⟩
          · rw [h2] at e; cases e
          · rw [h2] at e
            cases e
            have := hget_some_lt h3
            omega
        have e7 : (Z.length : Int) + 1 - 1 = Z.length := by omega
        have hz4 : Z.length ≤ 4 := by rw [hZ] at hll; simp at hll; omega
        have e8 : (Z ++ [x]).length = Z.length + 1 := by simp
        rw [hZ]
        simp (disch := first | omega | (simp only [List.length_append, List.length_cons, List.length_nil, length_hset, length_hkill]; omega)) only [↓fsPre, fsPost, fsCond, fsGen, npick, nbin, nun, nconv, nnilCheck, noff, nidxArr, nidxSl, nfield, npart, nindex, nextract, nlenSl, nlenStr, ncap, mmx, minmax2, nslice, nsliceArr, nbounds, obound, bound, adv, nbits, eqVal, eqCell, eqCells, nfill, lenOfSl, cls, fresults, fresl, fres1, gt_iff_lt, ge_iff_le, reduceCtorEq, Nat.reduceAdd, Nat.reduceMul, Nat.reduceSub, Nat.reduceLT, Nat.reduceLeDiff, Nat.reduceEqDiff, Nat.reduceBEq, Nat.reduceBNe, Int.reduceLT, Int.reduceLE, Int.reduceEq, Int.reduceNe, Int.reduceAdd, Int.reduceSub, Int.reduceNeg, Int.reduceToNat, Int.reduceMul, ↓reduceIte, Int.reduceGT, Int.reduceGE, f2, f9, f10, f12, f13, f16, f17, b9, b10, hcl, e8]
        rw [e8] at hsc
        refine grc_app2 (N := G.length) out2 (by rw [List.length_append]; omega) hsc rfl (by omega) (by omega) (by rw [recs_length]; simp) (by rw [recs_length]; omega) (by rw [hZ] at hll; simp at hll; omega) (by omega) ?_
        intro v' h' hg' hl' ho' hk'
        have hcl' : hget h' bl = some (.cells (recs (Z ++ [x])) false) := by rw [hk' bl hbll hneq]; exact hcl
        simp (disch := first | omega | (simp only [List.length_append, List.length_cons, List.length_nil, length_hset, length_hkill]; omega)) only [↓fsPre, fsPost, fsCond, fsGen, npick, nbin, nun, nconv, nnilCheck, noff, nidxArr, nidxSl, nfield, npart, nindex, nextract, nlenSl, nlenStr, ncap, mmx, minmax2, nslice, nsliceArr, nbounds, obound, bound, adv, nbits, eqVal, eqCell, eqCells, nfill, lenOfSl, cls, fresults, fresl, fres1, gt_iff_lt, ge_iff_le, reduceCtorEq, Nat.reduceAdd, Nat.reduceMul, Nat.reduceSub, Nat.reduceLT, Nat.reduceLeDiff, Nat.reduceEqDiff, Nat.reduceBEq, Nat.reduceBNe, Int.reduceLT, Int.reduceLE, Int.reduceEq, Int.reduceNe, Int.reduceAdd, Int.reduceSub, Int.reduceNeg, Int.reduceToNat, Int.reduceMul, ↓reduceIte, Int.reduceGT, Int.reduceGE, f2, f9, f10, f12, f13, f16, f17, b9, b10, hcl, hcl', e7, e8, hx0]
        have hA2 : A = (X ++ Z) ++ x :: Y.drop c := by
          have h1 : X ++ Y = X ++ (Z ++ x :: Y.drop c) := by rw [← hYd]
          rw [hXY, h1, List.append_assoc]
        have hf : A.filter (fun y => decide (x.num + 1 ≤ y.num)) = Y.drop c := by
          have := hAasc
          rw [hA2] at this ⊢
          exact filter_behind this
        simp only [List.length_append, List.length_cons, List.length_nil] at hl'
        refine ⟨by omega, by omega, fun b hb => (ho' b hb).trans ((hget_appl (by omega)).trans (ho b hb)), x.num + 1, X ++ (Z ++ [x]), Y.drop c, rfl, by omega, by omega, ?_, hf, ?_, by rw [recs_append]; exact hg'⟩
        · rw [hA2]; simp
        · simp only [List.length_append, List.length_cons, List.length_nil]; omega
  · rintro F h ⟨f2, f9, f10, f12, f13, f17, hl, ho, fr, X, Y, f16, hf0, hf1, hXY, hY, hjX, out⟩
    have := congrArg List.length hXY
    rw [List.length_append] at this
    omega
def kindsPages : List PK := [.sl [.int .u8], .sl [.int .u8], .flat [.int .u8] false, .flat [.int .u8] false]
theorem walkPages (nvs : List NV) (h : Heap) (ok : argsOK kindsPages 0 nvs h) : NFun Try.prog 9 nvs h (fun q => q.1 = .bool true) := by
  obtain ⟨v, vs, x, h, rfl, rfl, h1, ok⟩ := argsOK_cons ok
  obtain ⟨w, vs, y, h, rfl, rfl, h2, ok⟩ := argsOK_cons ok
  obtain ⟨u, vs, x3, h, rfl, rfl, h3, ok⟩ := argsOK_cons ok
  obtain ⟨u, vs, x4, h, rfl, rfl, h4, ok⟩ := argsOK_cons ok
  obtain ⟨rfl, rfl⟩ := argsOK_nil ok
  obtain ⟨a, rfl, ha, rfl⟩ := argOK_int h3
  obtain ⟨b, rfl, hb, rfl⟩ := argOK_int h4
  obtain ⟨xs, hx⟩ := argOK_bytes (H := [x, y, none, none]) h1 rfl
  obtain ⟨ys, hy⟩ := argOK_bytes (H := [x, y, none, none]) h2 rfl
  exact pages_ok _ _ _ xs ys hx hy a b (bounds_u8 ha) (bounds_u8 hb)
end Go.Proofs

