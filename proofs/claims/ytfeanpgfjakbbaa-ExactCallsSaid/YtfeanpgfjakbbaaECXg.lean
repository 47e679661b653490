/- Exact: the document's index: Put, Remove, Get. -/
import Derived.Test.YtfeanpgfjakbbaaECXf
set_option linter.unusedSimpArgs false
set_option linter.unusedVariables false
set_option maxRecDepth 100000
namespace Go.Proofs
open Go.Ns

theorem gre_app {h : Heap} {N m : Nat} {C new : List NV} {v x : NV} {K : NV → Heap → Prop} {t : Tg K} (g : GrE h C v) (hN : N ≤ h.length) (hgN : ∀ b k, v = .slice (some (b, 0)) k (.opn 9) → N ≤ b) (hx : sliceCells h 9 x = some new) (hm : lenOfSl x = some m) (hnew : new.length = m * 9)
    (hC : C.length ≤ 1000) (hm2 : m ≤ 1000)
    (k : ∀ v' h', GrE h' (C ++ new) v' → h.length ≤ h'.length → (∀ b k, v' = .slice (some (b, 0)) k (.opn 9) → N ≤ b) → (∀ b, b < N → hget h' b = hget h b) → K v' h') : optB (nappendS h 9 72 v x) K t := by
  rcases Nat.eq_zero_or_pos m with h0 | h0
  · subst h0
    have hn : new = [] := by simpa using hnew
    subst hn
    rcases g with ⟨rfl, A, rfl⟩ | ⟨b, l, rfl, h4, h5, h6⟩
    · cases A with
      | none => exact app_nil0 hx hm (k _ _ (.inl ⟨rfl, none, rfl⟩) (Nat.le_refl _) (fun b k e => by cases e) fun b _ => rfl)
      | some a => exact app_fix0 hx hm (Nat.le_refl _) (k _ _ (.inl ⟨rfl, some a, rfl⟩) (Nat.le_refl _) hgN fun b _ => rfl)
    · refine app_fit hx hm h4 (by omega) (k _ _ (.inr ⟨b, l, rfl, ?_, by simpa using h5, h6⟩) (by rw [length_hset]; exact Nat.le_refl _) (fun b' k e => hgN b' _ (by cases e; rfl)) fun b' hb' => ?_)
      · rw [splice_nil, hset_same h4, List.append_nil]; exact h4
      · rw [splice_nil, hset_same h4]
  · have hne : new ≠ [] := by
      intro e1
      rw [e1] at hnew
      simp at hnew
      omega
    rcases g with ⟨rfl, A, rfl⟩ | ⟨b, l, rfl, h4, h5, h6⟩
    · have kk : K (.slice (some (h.length, 0)) m (.opn 9)) (h ++ [some (.cells new false)]) := k _ _ (.inr ⟨h.length, m, rfl, by rw [List.nil_append]; exact hget_append_new, by rw [List.nil_append]; exact hnew, h0⟩) (by simp) (fun b k e => by cases e; exact hN) fun b hb => hget_appl (by omega)
      cases A with
      | none => exact app_nil hx hm h0 ⟨by omega, by omega⟩ kk
      | some a =>
        obtain ⟨b, o⟩ := a
        refine app_fix (old := []) hx hm (by omega) ⟨by omega, by omega⟩ rfl ?_
        rw [Nat.zero_add, List.nil_append]
        exact kk
    · have hml : (l + m) * 9 = C.length + new.length := by omega
      have hpos : 0 < new.length := List.length_pos_iff.2 hne
      refine app_grow hx hm h4 hne (by rw [hml]; omega) (by omega) ⟨by omega, by omega⟩ (k _ _ (.inr ⟨h.length, l + m, rfl, ?_, ?_, by omega⟩) (by simp) (fun b k e => by cases e; exact hN) fun b' hb' => ?_)
      · have := hget_append_new (h := hkill h b) (o := some (NBlk.cells (List.take (l * 9) (List.drop 0 C) ++ new) false))
        rw [length_hkill] at this
        rw [this, List.drop_zero, List.take_of_length_le (by omega)]
      · rw [List.length_append, hml]
      · have := hgN b l rfl
        rw [hget_appl (by rw [length_hkill]; omega), hget_hkill_ne (by omega)]

theorem GrE.flat {h : Heap} {C : List NV} {v : NV} (g : GrE h C v) : v.flat = true ∧ v.cells = [v] := by
  rcases g with ⟨_, A, rfl⟩ | ⟨b, k, rfl, _⟩ <;> exact ⟨rfl, rfl⟩
theorem GrE.set {h : Heap} {N c : Nat} {C : List NV} {v : NV} {x : NBlk} (g : GrE h C v) (n : ∀ b k, v = .slice (some (b, 0)) k (.opn 9) → N ≤ b) (hc : c < N) : GrE (hset h c x) C v := by
  rcases g with g | ⟨b, k, h1, h2, h3⟩
  · exact .inl g
  · have := n b k h1
    exact .inr ⟨b, k, h1, by rw [hget_hset_ne (by omega)]; exact h2, h3⟩
theorem cut_take {L : List (Pt × Int)} {j : Nat} (hj : j ≤ L.length) : cut (L.flatMap prC) 0 (j * 9) = some ((L.take j).flatMap prC) := by
  have e : L.flatMap prC = (L.take j).flatMap prC ++ (L.drop j).flatMap prC := by rw [← List.flatMap_append, List.take_append_drop]
  have hl : ((L.take j).flatMap prC).length = j * 9 := by rw [prs_length, List.length_take, Nat.min_eq_left hj]
  unfold cut
  rw [if_pos (by rw [prs_length]; omega), List.drop_zero, e, List.take_left' hl]
theorem cut_drop {L : List (Pt × Int)} {j : Nat} (hj : j ≤ L.length) : cut (L.flatMap prC) (j * 9) ((L.length - j) * 9) = some ((L.drop j).flatMap prC) := by
  have e : L.flatMap prC = (L.take j).flatMap prC ++ (L.drop j).flatMap prC := by rw [← List.flatMap_append, List.take_append_drop]
  have hl : ((L.take j).flatMap prC).length = j * 9 := by rw [prs_length, List.length_take, Nat.min_eq_left hj]
  have hl2 : ((L.drop j).flatMap prC).length = (L.length - j) * 9 := by rw [prs_length, List.length_drop]
  unfold cut
  rw [if_pos (by rw [prs_length]; omega), e, List.drop_left' hl, List.take_of_length_le (by omega)]
theorem pair_build (p : Pt) (i : Int) : splice (ptC p ++ [NV.int .i64 0]) 8 [NV.int .i64 i] = prC (p, i) := rfl
theorem rget_ok (H : Heap) (q : Nat) (sl : NV) (L : List (Pt × Int)) (p : Pt) (hq : hget H q = some (.cells [sl] false)) (hg : GrE H (L.flatMap prC) sl) (hL : L.length ≤ 100) :
    NCall Try.prog 15 [.ptr (some (q, 0)), .agg (ptC p)] H fun r => r = (.tup [.int .i64 (if thereP L p = true then (L[placeP L p]?.map (·.2)).getD 0 else 0), .bool (thereP L p)], H) := by
  have lq := hget_some_lt hq
  refine call_pure E0 mixed t15_ok (by kernel_rfl) ⟨trivial, trivial, trivial⟩ ?_
  simp only [t15]
  simp (disch := first | omega | (simp only [List.length_append, List.length_cons, List.length_nil, length_hset, length_hkill]; omega)) only [↓fsPre, fsPost, fsCond, fsGen, npick, nbin, nun, nconv, nnilCheck, noff, nidxArr, nidxSl, nfield, npart, nindex, nextract, nlenSl, nlenStr, ncap, mmx, minmax2, nslice, nsliceArr, nbounds, obound, bound, adv, nbits, eqVal, eqCell, eqCells, nfill, lenOfSl, cls, fresults, fresl, fres1, gt_iff_lt, ge_iff_le, reduceCtorEq, Nat.reduceAdd, Nat.reduceMul, Nat.reduceSub, Nat.reduceLT, Nat.reduceLeDiff, Nat.reduceEqDiff, Nat.reduceBEq, Nat.reduceBNe, Int.reduceLT, Int.reduceLE, Int.reduceEq, Int.reduceNe, Int.reduceAdd, Int.reduceSub, Int.reduceNeg, Int.reduceToNat, Int.reduceMul, ↓reduceIte, Int.reduceGT, Int.reduceGE, ptC_one, ptC_cut]
  refine callT_one (place_ok _ q sl L p (by rw [hget_appl lq]; exact hq) (hg.mono fun b hb => hget_appl hb) hL) rfl ?_
  obtain ⟨A, c, rfl, hAc⟩ := hg.prs
  by_cases ht : thereP L p = true
  · have hi : placeP L p < L.length := by
      rcases Nat.lt_or_ge (placeP L p) L.length with h | h
      · exact h
      · unfold thereP at ht
        rw [List.getElem?_eq_none h] at ht
        cases ht
    rcases hAc with ⟨_, rfl⟩ | ⟨rfl, hp0, b, rfl, hb⟩
    · simp at hi
    have hbl := hget_some_lt hb
    have hc : (L.flatMap prC)[placeP L p * 9 + 8]? = some (.int .i64 L[placeP L p].2) := by rw [cut_get (cut_flatMap prC_length hi) (by omega)]; rfl
    rw [ht, if_pos rfl, List.getElem?_eq_getElem hi]
    simp (disch := first | omega | (simp only [List.length_append, List.length_cons, List.length_nil, length_hset, length_hkill]; omega)) only [↓fsPre, fsPost, fsCond, fsGen, npick, nbin, nun, nconv, nnilCheck, noff, nidxArr, nidxSl, nfield, npart, nindex, nextract, nlenSl, nlenStr, ncap, mmx, minmax2, nslice, nsliceArr, nbounds, obound, bound, adv, nbits, eqVal, eqCell, eqCells, nfill, lenOfSl, cls, fresults, fresl, fres1, gt_iff_lt, ge_iff_le, reduceCtorEq, Nat.reduceAdd, Nat.reduceMul, Nat.reduceSub, Nat.reduceLT, Nat.reduceLeDiff, Nat.reduceEqDiff, Nat.reduceBEq, Nat.reduceBNe, Int.reduceLT, Int.reduceLE, Int.reduceEq, Int.reduceNe, Int.reduceAdd, Int.reduceSub, Int.reduceNeg, Int.reduceToNat, Int.reduceMul, ↓reduceIte, Int.reduceGT, Int.reduceGE, hq, hb, hc]
    exact ⟨rfl, _, rfl⟩
  · have ht : thereP L p = false := by simpa using ht
    rw [ht, if_neg (by simp)]
    simp (disch := first | omega | (simp only [List.length_append, List.length_cons, List.length_nil, length_hset, length_hkill]; omega)) only [↓fsPre, fsPost, fsCond, fsGen, npick, nbin, nun, nconv, nnilCheck, noff, nidxArr, nidxSl, nfield, npart, nindex, nextract, nlenSl, nlenStr, ncap, mmx, minmax2, nslice, nsliceArr, nbounds, obound, bound, adv, nbits, eqVal, eqCell, eqCells, nfill, lenOfSl, cls, fresults, fresl, fres1, gt_iff_lt, ge_iff_le, reduceCtorEq, Nat.reduceAdd, Nat.reduceMul, Nat.reduceSub, Nat.reduceLT, Nat.reduceLeDiff, Nat.reduceEqDiff, Nat.reduceBEq, Nat.reduceBNe, Int.reduceLT, Int.reduceLE, Int.reduceEq, Int.reduceNe, Int.reduceAdd, Int.reduceSub, Int.reduceNeg, Int.reduceToNat, Int.reduceMul, ↓reduceIte, Int.reduceGT, Int.reduceGE, hq]
    exact ⟨_, rfl⟩

set_option maxHeartbeats 1000000 in
theorem rput_new (H : Heap) (q : Nat) (sl : NV) (L : List (Pt × Int)) (p : Pt) (i : Int) (hq : hget H q = some (.cells [sl] false)) (hg : GrE H (L.flatMap prC) sl) (hL : L.length ≤ 100) (ht : thereP L p = false) :
    DCall Try.prog 12 [.ptr (some (q, 0)), .agg (ptC p), .int .i64 i] H fun r => r.1 = .bool true ∧ H.length ≤ r.2.length ∧ (∀ b, b < H.length → b ≠ q → hget r.2 b = hget H b) ∧ ∃ sl', hget r.2 q = some (.cells [sl'] false) ∧ GrE r.2 ((insP L p i).flatMap prC) sl' := by
  have lq := hget_some_lt hq
  refine call_det E0 rfl mixed t12_ok (by kernel_rfl) (by rintro q ⟨_, h, _⟩; exact h) ?_
  simp only [t12]
  simp (disch := first | omega | (simp only [List.length_append, List.length_cons, List.length_nil, length_hset, length_hkill]; omega)) only [↓fsPre, fsPost, fsCond, fsGen, npick, nbin, nun, nconv, nnilCheck, noff, nidxArr, nidxSl, nfield, npart, nindex, nextract, nlenSl, nlenStr, ncap, mmx, minmax2, nslice, nsliceArr, nbounds, obound, bound, adv, nbits, eqVal, eqCell, eqCells, nfill, lenOfSl, cls, fresults, fresl, fres1, gt_iff_lt, ge_iff_le, reduceCtorEq, Nat.reduceAdd, Nat.reduceMul, Nat.reduceSub, Nat.reduceLT, Nat.reduceLeDiff, Nat.reduceEqDiff, Nat.reduceBEq, Nat.reduceBNe, Int.reduceLT, Int.reduceLE, Int.reduceEq, Int.reduceNe, Int.reduceAdd, Int.reduceSub, Int.reduceNeg, Int.reduceToNat, Int.reduceMul, ↓reduceIte, Int.reduceGT, Int.reduceGE, ptC_one, ptC_cut]
  refine callT_one (place_ok _ q sl L p (by rw [hget_appl lq]; exact hq) (hg.mono fun b hb => hget_appl hb) hL) rfl ?_
  obtain ⟨A, c, rfl, hAc⟩ := hg.prs
  have hle := placeP_le L p
  rw [ht]
  unfold insP
  generalize placeP L p = j at *
  rcases hAc with ⟨rfl, rfl⟩ | ⟨rfl, hp0, b, rfl, hb⟩
  · have hj : j = 0 := by simpa using hle
    subst hj
    have hcut : sliceCells (H ++ [some (.cells (ptC p) false), some (.cells [] false), none]) 9 (.slice A 0 (.fix 0)) = some [] := by cases A <;> simp [sliceCells]
    simp (disch := first | omega | (simp only [List.length_append, List.length_cons, List.length_nil, length_hset, length_hkill]; omega)) only [↓fsPre, fsPost, fsCond, fsGen, npick, nbin, nun, nconv, nnilCheck, noff, nidxArr, nidxSl, nfield, npart, nindex, nextract, nlenSl, nlenStr, ncap, mmx, minmax2, nslice, nsliceArr, nbounds, obound, bound, adv, nbits, eqVal, eqCell, eqCells, nfill, lenOfSl, cls, fresults, fresl, fres1, gt_iff_lt, ge_iff_le, reduceCtorEq, Nat.reduceAdd, Nat.reduceMul, Nat.reduceSub, Nat.reduceLT, Nat.reduceLeDiff, Nat.reduceEqDiff, Nat.reduceBEq, Nat.reduceBNe, Int.reduceLT, Int.reduceLE, Int.reduceEq, Int.reduceNe, Int.reduceAdd, Int.reduceSub, Int.reduceNeg, Int.reduceToNat, Int.reduceMul, ↓reduceIte, Int.reduceGT, Int.reduceGE, ptC_one, ptC_cut, hq]
    refine gre_app (N := H.length + 3) (C := []) (new := []) (.inl ⟨rfl, _, rfl⟩) (by simp) (fun b k e => by cases e) hcut rfl rfl (by simp) (by omega) ?_
    intro v1 h1 g1 l1 n1 o1
    have e0 := o1 H.length (by omega)
    have e2 := o1 (H.length + 2) (by omega)
    have eq := o1 q (by omega)
    simp (disch := first | omega | (simp only [List.length_append, List.length_cons, List.length_nil, length_hset, length_hkill]; omega)) only [↓fsPre, fsPost, fsCond, fsGen, npick, nbin, nun, nconv, nnilCheck, noff, nidxArr, nidxSl, nfield, npart, nindex, nextract, nlenSl, nlenStr, ncap, mmx, minmax2, nslice, nsliceArr, nbounds, obound, bound, adv, nbits, eqVal, eqCell, eqCells, nfill, lenOfSl, cls, fresults, fresl, fres1, gt_iff_lt, ge_iff_le, reduceCtorEq, Nat.reduceAdd, Nat.reduceMul, Nat.reduceSub, Nat.reduceLT, Nat.reduceLeDiff, Nat.reduceEqDiff, Nat.reduceBEq, Nat.reduceBNe, Int.reduceLT, Int.reduceLE, Int.reduceEq, Int.reduceNe, Int.reduceAdd, Int.reduceSub, Int.reduceNeg, Int.reduceToNat, Int.reduceMul, ↓reduceIte, Int.reduceGT, Int.reduceGE] at e0 e2 eq
    rw [hq] at eq
    simp only [List.length_append, List.length_cons, List.length_nil] at l1
    have e01 := e0
    have eq1 := eq
    simp (disch := first | omega | (simp only [List.length_append, List.length_cons, List.length_nil, length_hset, length_hkill]; omega)) only [↓fsPre, fsPost, fsCond, fsGen, npick, nbin, nun, nconv, nnilCheck, noff, nidxArr, nidxSl, nfield, npart, nindex, nextract, nlenSl, nlenStr, ncap, mmx, minmax2, nslice, nsliceArr, nbounds, obound, bound, adv, nbits, eqVal, eqCell, eqCells, nfill, lenOfSl, cls, fresults, fresl, fres1, gt_iff_lt, ge_iff_le, reduceCtorEq, Nat.reduceAdd, Nat.reduceMul, Nat.reduceSub, Nat.reduceLT, Nat.reduceLeDiff, Nat.reduceEqDiff, Nat.reduceBEq, Nat.reduceBNe, Int.reduceLT, Int.reduceLE, Int.reduceEq, Int.reduceNe, Int.reduceAdd, Int.reduceSub, Int.reduceNeg, Int.reduceToNat, Int.reduceMul, ↓reduceIte, Int.reduceGT, Int.reduceGE, ptC_one, ptC_cut, hq, e0, e2, eq, ptC_length, pair_build, prC_one, prC_length]
    refine ⟨by omega, ?_⟩
    refine gre_app (N := H.length + 3) (new := prC (p, i)) (m := 1) (g1.set (N := H.length + 3) n1 (by omega)) (by rw [length_hset]; omega) n1 (sliceCells_at (by simp (disch := first | omega | (simp only [List.length_append, List.length_cons, List.length_nil, length_hset, length_hkill]; omega)) only [↓fsPre, fsPost, fsCond, fsGen, npick, nbin, nun, nconv, nnilCheck, noff, nidxArr, nidxSl, nfield, npart, nindex, nextract, nlenSl, nlenStr, ncap, mmx, minmax2, nslice, nsliceArr, nbounds, obound, bound, adv, nbits, eqVal, eqCell, eqCells, nfill, lenOfSl, cls, fresults, fresl, fres1, gt_iff_lt, ge_iff_le, reduceCtorEq, Nat.reduceAdd, Nat.reduceMul, Nat.reduceSub, Nat.reduceLT, Nat.reduceLeDiff, Nat.reduceEqDiff, Nat.reduceBEq, Nat.reduceBNe, Int.reduceLT, Int.reduceLE, Int.reduceEq, Int.reduceNe, Int.reduceAdd, Int.reduceSub, Int.reduceNeg, Int.reduceToNat, Int.reduceMul, ↓reduceIte, Int.reduceGT, Int.reduceGE] <;> rfl) rfl) rfl rfl (by simp) (by omega) ?_
    intro v2 h2 g2 l2 n2 o2
    have e0 := (o2 H.length (by omega)).trans ((hget_hset_ne (by omega)).trans e0)
    have eq := (o2 q (by omega)).trans ((hget_hset_ne (by omega)).trans eq)
    have old2 : ∀ c, c < H.length → hget h2 c = hget H c := fun c hc => by rw [o2 c (by omega), hget_hset_ne (by omega), o1 c (by omega), hget_appl hc]
    rw [length_hset] at l2
    have l2' : H.length + 3 ≤ h2.length := by omega
    clear o1 o2 g1 n1 e2 l1 l2
    have hcut : sliceCells h2 9 (.slice A 0 (.fix 0)) = some [] := by cases A <;> simp [sliceCells]
    simp (disch := first | omega | (simp only [List.length_append, List.length_cons, List.length_nil, length_hset, length_hkill]; omega)) only [↓fsPre, fsPost, fsCond, fsGen, npick, nbin, nun, nconv, nnilCheck, noff, nidxArr, nidxSl, nfield, npart, nindex, nextract, nlenSl, nlenStr, ncap, mmx, minmax2, nslice, nsliceArr, nbounds, obound, bound, adv, nbits, eqVal, eqCell, eqCells, nfill, lenOfSl, cls, fresults, fresl, fres1, gt_iff_lt, ge_iff_le, reduceCtorEq, Nat.reduceAdd, Nat.reduceMul, Nat.reduceSub, Nat.reduceLT, Nat.reduceLeDiff, Nat.reduceEqDiff, Nat.reduceBEq, Nat.reduceBNe, Int.reduceLT, Int.reduceLE, Int.reduceEq, Int.reduceNe, Int.reduceAdd, Int.reduceSub, Int.reduceNeg, Int.reduceToNat, Int.reduceMul, ↓reduceIte, Int.reduceGT, Int.reduceGE, ptC_one, ptC_cut, hq, e0, eq]
    refine ⟨by omega, ?_⟩
    refine gre_app (N := H.length + 3) (new := []) g2 l2' n2 hcut rfl rfl (by simp [prC_length]) (by omega) ?_
    intro v3 h3 g3 l3 n3 o3
    have eq2 := eq
    have eq := (o3 q (by omega)).trans eq
    have lq3 := hget_some_lt eq
    obtain ⟨o31, o32⟩ := g3.flat
    have hfin : GrE (hset h3 q (.cells [v3] false)) ((([] : List (Pt × Int)).take 0 ++ (p, i) :: [].drop 0).flatMap prC) v3 := by
      have : ((([] : List (Pt × Int)).take 0 ++ (p, i) :: [].drop 0).flatMap prC) = ([] ++ [] ++ prC (p, i)) ++ [] := by simp
      rw [this]
      exact g3.set n3 (by omega)
    simp (disch := first | omega | (simp only [List.length_append, List.length_cons, List.length_nil, length_hset, length_hkill]; omega)) only [↓fsPre, fsPost, fsCond, fsGen, npick, nbin, nun, nconv, nnilCheck, noff, nidxArr, nidxSl, nfield, npart, nindex, nextract, nlenSl, nlenStr, ncap, mmx, minmax2, nslice, nsliceArr, nbounds, obound, bound, adv, nbits, eqVal, eqCell, eqCells, nfill, lenOfSl, cls, fresults, fresl, fres1, gt_iff_lt, ge_iff_le, reduceCtorEq, Nat.reduceAdd, Nat.reduceMul, Nat.reduceSub, Nat.reduceLT, Nat.reduceLeDiff, Nat.reduceEqDiff, Nat.reduceBEq, Nat.reduceBNe, Int.reduceLT, Int.reduceLE, Int.reduceEq, Int.reduceNe, Int.reduceAdd, Int.reduceSub, Int.reduceNeg, Int.reduceToNat, Int.reduceMul, ↓reduceIte, Int.reduceGT, Int.reduceGE, ptC_one, ptC_cut, eq, o31, o32]
    refine ⟨by omega, by omega, ⟨by rw [e01]; rfl, by rw [eq1]; rfl, by rw [eq2]; rfl⟩, by omega, fun c hc hne => ?_, _, rfl, hfin⟩
    rw [hget_hset_ne (Ne.symm hne), o3 c (by omega)]
    exact old2 c hc
  · have hbl := hget_some_lt hb
    have hcut : cut (L.flatMap prC) 0 (j * 9) = some ((L.take j).flatMap prC) := cut_take hle
    simp (disch := first | omega | (simp only [List.length_append, List.length_cons, List.length_nil, length_hset, length_hkill]; omega)) only [↓fsPre, fsPost, fsCond, fsGen, npick, nbin, nun, nconv, nnilCheck, noff, nidxArr, nidxSl, nfield, npart, nindex, nextract, nlenSl, nlenStr, ncap, mmx, minmax2, nslice, nsliceArr, nbounds, obound, bound, adv, nbits, eqVal, eqCell, eqCells, nfill, lenOfSl, cls, fresults, fresl, fres1, gt_iff_lt, ge_iff_le, reduceCtorEq, Nat.reduceAdd, Nat.reduceMul, Nat.reduceSub, Nat.reduceLT, Nat.reduceLeDiff, Nat.reduceEqDiff, Nat.reduceBEq, Nat.reduceBNe, Int.reduceLT, Int.reduceLE, Int.reduceEq, Int.reduceNe, Int.reduceAdd, Int.reduceSub, Int.reduceNeg, Int.reduceToNat, Int.reduceMul, ↓reduceIte, Int.reduceGT, Int.reduceGE, ptC_one, ptC_cut, hq]
    refine gre_app (N := H.length + 3) (C := []) (new := (L.take j).flatMap prC) (.inl ⟨rfl, _, rfl⟩) (by simp) (fun b k e => by cases e) (sliceCells_at (by simp (disch := first | omega | (simp only [List.length_append, List.length_cons, List.length_nil, length_hset, length_hkill]; omega)) only [↓fsPre, fsPost, fsCond, fsGen, npick, nbin, nun, nconv, nnilCheck, noff, nidxArr, nidxSl, nfield, npart, nindex, nextract, nlenSl, nlenStr, ncap, mmx, minmax2, nslice, nsliceArr, nbounds, obound, bound, adv, nbits, eqVal, eqCell, eqCells, nfill, lenOfSl, cls, fresults, fresl, fres1, gt_iff_lt, ge_iff_le, reduceCtorEq, Nat.reduceAdd, Nat.reduceMul, Nat.reduceSub, Nat.reduceLT, Nat.reduceLeDiff, Nat.reduceEqDiff, Nat.reduceBEq, Nat.reduceBNe, Int.reduceLT, Int.reduceLE, Int.reduceEq, Int.reduceNe, Int.reduceAdd, Int.reduceSub, Int.reduceNeg, Int.reduceToNat, Int.reduceMul, ↓reduceIte, Int.reduceGT, Int.reduceGE, hb] <;> rfl) hcut) rfl (by rw [prs_length, List.length_take, Nat.min_eq_left hle]) (by simp) (by omega) ?_
    intro v1 h1 g1 l1 n1 o1
    have e0 := o1 H.length (by omega)
    have e2 := o1 (H.length + 2) (by omega)
    have eq := o1 q (by omega)
    have eb := o1 b (by omega)
    simp (disch := first | omega | (simp only [List.length_append, List.length_cons, List.length_nil, length_hset, length_hkill]; omega)) only [↓fsPre, fsPost, fsCond, fsGen, npick, nbin, nun, nconv, nnilCheck, noff, nidxArr, nidxSl, nfield, npart, nindex, nextract, nlenSl, nlenStr, ncap, mmx, minmax2, nslice, nsliceArr, nbounds, obound, bound, adv, nbits, eqVal, eqCell, eqCells, nfill, lenOfSl, cls, fresults, fresl, fres1, gt_iff_lt, ge_iff_le, reduceCtorEq, Nat.reduceAdd, Nat.reduceMul, Nat.reduceSub, Nat.reduceLT, Nat.reduceLeDiff, Nat.reduceEqDiff, Nat.reduceBEq, Nat.reduceBNe, Int.reduceLT, Int.reduceLE, Int.reduceEq, Int.reduceNe, Int.reduceAdd, Int.reduceSub, Int.reduceNeg, Int.reduceToNat, Int.reduceMul, ↓reduceIte, Int.reduceGT, Int.reduceGE] at e0 e2 eq eb
    rw [hq] at eq
    rw [hb] at eb
    simp only [List.length_append, List.length_cons, List.length_nil] at l1
    have e01 := e0
    have eq1 := eq
    simp (disch := first | omega | (simp only [List.length_append, List.length_cons, List.length_nil, length_hset, length_hkill]; omega)) only [↓fsPre, fsPost, fsCond, fsGen, npick, nbin, nun, nconv, nnilCheck, noff, nidxArr, nidxSl, nfield, npart, nindex, nextract, nlenSl, nlenStr, ncap, mmx, minmax2, nslice, nsliceArr, nbounds, obound, bound, adv, nbits, eqVal, eqCell, eqCells, nfill, lenOfSl, cls, fresults, fresl, fres1, gt_iff_lt, ge_iff_le, reduceCtorEq, Nat.reduceAdd, Nat.reduceMul, Nat.reduceSub, Nat.reduceLT, Nat.reduceLeDiff, Nat.reduceEqDiff, Nat.reduceBEq, Nat.reduceBNe, Int.reduceLT, Int.reduceLE, Int.reduceEq, Int.reduceNe, Int.reduceAdd, Int.reduceSub, Int.reduceNeg, Int.reduceToNat, Int.reduceMul, ↓reduceIte, Int.reduceGT, Int.reduceGE, ptC_one, ptC_cut, hq, e0, e2, eq, eb, ptC_length, pair_build, prC_one, prC_length]
    refine ⟨by omega, ?_⟩
    refine gre_app (N := H.length + 3) (new := prC (p, i)) (m := 1) (g1.set (N := H.length + 3) n1 (by omega)) (by rw [length_hset]; omega) n1 (sliceCells_at (by simp (disch := first | omega | (simp only [List.length_append, List.length_cons, List.length_nil, length_hset, length_hkill]; omega)) only [↓fsPre, fsPost, fsCond, fsGen, npick, nbin, nun, nconv, nnilCheck, noff, nidxArr, nidxSl, nfield, npart, nindex, nextract, nlenSl, nlenStr, ncap, mmx, minmax2, nslice, nsliceArr, nbounds, obound, bound, adv, nbits, eqVal, eqCell, eqCells, nfill, lenOfSl, cls, fresults, fresl, fres1, gt_iff_lt, ge_iff_le, reduceCtorEq, Nat.reduceAdd, Nat.reduceMul, Nat.reduceSub, Nat.reduceLT, Nat.reduceLeDiff, Nat.reduceEqDiff, Nat.reduceBEq, Nat.reduceBNe, Int.reduceLT, Int.reduceLE, Int.reduceEq, Int.reduceNe, Int.reduceAdd, Int.reduceSub, Int.reduceNeg, Int.reduceToNat, Int.reduceMul, ↓reduceIte, Int.reduceGT, Int.reduceGE] <;> rfl) rfl) rfl rfl (by rw [List.nil_append, prs_length, List.length_take, Nat.min_eq_left hle]; omega) (by omega) ?_
    intro v2 h2 g2 l2 n2 o2
    have e0 := (o2 H.length (by omega)).trans ((hget_hset_ne (by omega)).trans e0)
    have eq := (o2 q (by omega)).trans ((hget_hset_ne (by omega)).trans eq)
    have eb := (o2 b (by omega)).trans ((hget_hset_ne (by omega)).trans eb)
    have old2 : ∀ c, c < H.length → hget h2 c = hget H c := fun c hc => by rw [o2 c (by omega), hget_hset_ne (by omega), o1 c (by omega), hget_appl hc]
    rw [length_hset] at l2
    have l2' : H.length + 3 ≤ h2.length := by omega
    clear o1 o2 g1 n1 e2 l1 l2
    simp (disch := first | omega | (simp only [List.length_append, List.length_cons, List.length_nil, length_hset, length_hkill]; omega)) only [↓fsPre, fsPost, fsCond, fsGen, npick, nbin, nun, nconv, nnilCheck, noff, nidxArr, nidxSl, nfield, npart, nindex, nextract, nlenSl, nlenStr, ncap, mmx, minmax2, nslice, nsliceArr, nbounds, obound, bound, adv, nbits, eqVal, eqCell, eqCells, nfill, lenOfSl, cls, fresults, fresl, fres1, gt_iff_lt, ge_iff_le, reduceCtorEq, Nat.reduceAdd, Nat.reduceMul, Nat.reduceSub, Nat.reduceLT, Nat.reduceLeDiff, Nat.reduceEqDiff, Nat.reduceBEq, Nat.reduceBNe, Int.reduceLT, Int.reduceLE, Int.reduceEq, Int.reduceNe, Int.reduceAdd, Int.reduceSub, Int.reduceNeg, Int.reduceToNat, Int.reduceMul, ↓reduceIte, Int.reduceGT, Int.reduceGE, ptC_one, ptC_cut, hq, e0, eq, eb]
    refine ⟨by omega, ?_⟩
    refine gre_app (N := H.length + 3) (new := (L.drop j).flatMap prC) g2 l2' n2 (sliceCells_at (by simp (disch := first | omega | (simp only [List.length_append, List.length_cons, List.length_nil, length_hset, length_hkill]; omega)) only [↓fsPre, fsPost, fsCond, fsGen, npick, nbin, nun, nconv, nnilCheck, noff, nidxArr, nidxSl, nfield, npart, nindex, nextract, nlenSl, nlenStr, ncap, mmx, minmax2, nslice, nsliceArr, nbounds, obound, bound, adv, nbits, eqVal, eqCell, eqCells, nfill, lenOfSl, cls, fresults, fresl, fres1, gt_iff_lt, ge_iff_le, reduceCtorEq, Nat.reduceAdd, Nat.reduceMul, Nat.reduceSub, Nat.reduceLT, Nat.reduceLeDiff, Nat.reduceEqDiff, Nat.reduceBEq, Nat.reduceBNe, Int.reduceLT, Int.reduceLE, Int.reduceEq, Int.reduceNe, Int.reduceAdd, Int.reduceSub, Int.reduceNeg, Int.reduceToNat, Int.reduceMul, ↓reduceIte, Int.reduceGT, Int.reduceGE, eb] <;> rfl) (cut_drop hle)) rfl (by rw [prs_length, List.length_drop]) (by rw [List.nil_append, List.length_append, prs_length, List.length_take, Nat.min_eq_left hle, prC_length]; omega) (by omega) ?_
    intro v3 h3 g3 l3 n3 o3
    have eq2 := eq
    have eq := (o3 q (by omega)).trans eq
    have lq3 := hget_some_lt eq
    obtain ⟨o31, o32⟩ := g3.flat
    have hfin : GrE (hset h3 q (.cells [v3] false)) ((L.take j ++ (p, i) :: L.drop j).flatMap prC) v3 := by
      have : ((L.take j ++ (p, i) :: L.drop j).flatMap prC) = ([] ++ (L.take j).flatMap prC ++ prC (p, i)) ++ (L.drop j).flatMap prC := by simp
      rw [this]
      exact g3.set n3 (by omega)
    simp (disch := first | omega | (simp only [List.length_append, List.length_cons, List.length_nil, length_hset, length_hkill]; omega)) only [↓fsPre, fsPost, fsCond, fsGen, npick, nbin, nun, nconv, nnilCheck, noff, nidxArr, nidxSl, nfield, npart, nindex, nextract, nlenSl, nlenStr, ncap, mmx, minmax2, nslice, nsliceArr, nbounds, obound, bound, adv, nbits, eqVal, eqCell, eqCells, nfill, lenOfSl, cls, fresults, fresl, fres1, gt_iff_lt, ge_iff_le, reduceCtorEq, Nat.reduceAdd, Nat.reduceMul, Nat.reduceSub, Nat.reduceLT, Nat.reduceLeDiff, Nat.reduceEqDiff, Nat.reduceBEq, Nat.reduceBNe, Int.reduceLT, Int.reduceLE, Int.reduceEq, Int.reduceNe, Int.reduceAdd, Int.reduceSub, Int.reduceNeg, Int.reduceToNat, Int.reduceMul, ↓reduceIte, Int.reduceGT, Int.reduceGE, ptC_one, ptC_cut, eq, o31, o32]
    refine ⟨by omega, by omega, ⟨by rw [e01]; rfl, by rw [eq1]; rfl, by rw [eq2]; rfl⟩, by omega, fun c hc hne => ?_, _, rfl, hfin⟩
    rw [hget_hset_ne (Ne.symm hne), o3 c (by omega)]
    exact old2 c hc

theorem rput_old (H : Heap) (q : Nat) (sl : NV) (L : List (Pt × Int)) (p : Pt) (i : Int) (hq : hget H q = some (.cells [sl] false)) (hg : GrE H (L.flatMap prC) sl) (hL : L.length ≤ 100) (ht : thereP L p = true) :
    NCall Try.prog 12 [.ptr (some (q, 0)), .agg (ptC p), .int .i64 i] H fun r => r = (.bool false, H) := by
  have lq := hget_some_lt hq
  refine call_pure E0 mixed t12_ok (by kernel_rfl) trivial ?_
  simp only [t12]
  simp (disch := first | omega | (simp only [List.length_append, List.length_cons, List.length_nil, length_hset, length_hkill]; omega)) only [↓fsPre, fsPost, fsCond, fsGen, npick, nbin, nun, nconv, nnilCheck, noff, nidxArr, nidxSl, nfield, npart, nindex, nextract, nlenSl, nlenStr, ncap, mmx, minmax2, nslice, nsliceArr, nbounds, obound, bound, adv, nbits, eqVal, eqCell, eqCells, nfill, lenOfSl, cls, fresults, fresl, fres1, gt_iff_lt, ge_iff_le, reduceCtorEq, Nat.reduceAdd, Nat.reduceMul, Nat.reduceSub, Nat.reduceLT, Nat.reduceLeDiff, Nat.reduceEqDiff, Nat.reduceBEq, Nat.reduceBNe, Int.reduceLT, Int.reduceLE, Int.reduceEq, Int.reduceNe, Int.reduceAdd, Int.reduceSub, Int.reduceNeg, Int.reduceToNat, Int.reduceMul, ↓reduceIte, Int.reduceGT, Int.reduceGE, ptC_one, ptC_cut]
  refine callT_one (place_ok _ q sl L p (by rw [hget_appl lq]; exact hq) (hg.mono fun b hb => hget_appl hb) hL) rfl ?_
  rw [ht]
  simp (disch := first | omega | (simp only [List.length_append, List.length_cons, List.length_nil, length_hset, length_hkill]; omega)) only [↓fsPre, fsPost, fsCond, fsGen, npick, nbin, nun, nconv, nnilCheck, noff, nidxArr, nidxSl, nfield, npart, nindex, nextract, nlenSl, nlenStr, ncap, mmx, minmax2, nslice, nsliceArr, nbounds, obound, bound, adv, nbits, eqVal, eqCell, eqCells, nfill, lenOfSl, cls, fresults, fresl, fres1, gt_iff_lt, ge_iff_le, reduceCtorEq, Nat.reduceAdd, Nat.reduceMul, Nat.reduceSub, Nat.reduceLT, Nat.reduceLeDiff, Nat.reduceEqDiff, Nat.reduceBEq, Nat.reduceBNe, Int.reduceLT, Int.reduceLE, Int.reduceEq, Int.reduceNe, Int.reduceAdd, Int.reduceSub, Int.reduceNeg, Int.reduceToNat, Int.reduceMul, ↓reduceIte, Int.reduceGT, Int.reduceGE, ptC_one, ptC_cut]
  exact ⟨_, rfl⟩
theorem rrem_not (H : Heap) (q : Nat) (sl : NV) (L : List (Pt × Int)) (p : Pt) (hq : hget H q = some (.cells [sl] false)) (hg : GrE H (L.flatMap prC) sl) (hL : L.length ≤ 100) (ht : thereP L p = false) :
    NCall Try.prog 13 [.ptr (some (q, 0)), .agg (ptC p)] H fun r => r = (.bool false, H) := by
  have lq := hget_some_lt hq
  refine call_pure E0 mixed t13_ok (by kernel_rfl) trivial ?_
  simp only [t13]
  simp (disch := first | omega | (simp only [List.length_append, List.length_cons, List.length_nil, length_hset, length_hkill]; omega)) only [↓fsPre, fsPost, fsCond, fsGen, npick, nbin, nun, nconv, nnilCheck, noff, nidxArr, nidxSl, nfield, npart, nindex, nextract, nlenSl, nlenStr, ncap, mmx, minmax2, nslice, nsliceArr, nbounds, obound, bound, adv, nbits, eqVal, eqCell, eqCells, nfill, lenOfSl, cls, fresults, fresl, fres1, gt_iff_lt, ge_iff_le, reduceCtorEq, Nat.reduceAdd, Nat.reduceMul, Nat.reduceSub, Nat.reduceLT, Nat.reduceLeDiff, Nat.reduceEqDiff, Nat.reduceBEq, Nat.reduceBNe, Int.reduceLT, Int.reduceLE, Int.reduceEq, Int.reduceNe, Int.reduceAdd, Int.reduceSub, Int.reduceNeg, Int.reduceToNat, Int.reduceMul, ↓reduceIte, Int.reduceGT, Int.reduceGE, ptC_one, ptC_cut]
  refine callT_one (place_ok _ q sl L p (by rw [hget_appl lq]; exact hq) (hg.mono fun b hb => hget_appl hb) hL) rfl ?_
  rw [ht]
  simp (disch := first | omega | (simp only [List.length_append, List.length_cons, List.length_nil, length_hset, length_hkill]; omega)) only [↓fsPre, fsPost, fsCond, fsGen, npick, nbin, nun, nconv, nnilCheck, noff, nidxArr, nidxSl, nfield, npart, nindex, nextract, nlenSl, nlenStr, ncap, mmx, minmax2, nslice, nsliceArr, nbounds, obound, bound, adv, nbits, eqVal, eqCell, eqCells, nfill, lenOfSl, cls, fresults, fresl, fres1, gt_iff_lt, ge_iff_le, reduceCtorEq, Nat.reduceAdd, Nat.reduceMul, Nat.reduceSub, Nat.reduceLT, Nat.reduceLeDiff, Nat.reduceEqDiff, Nat.reduceBEq, Nat.reduceBNe, Int.reduceLT, Int.reduceLE, Int.reduceEq, Int.reduceNe, Int.reduceAdd, Int.reduceSub, Int.reduceNeg, Int.reduceToNat, Int.reduceMul, ↓reduceIte, Int.reduceGT, Int.reduceGE, ptC_one, ptC_cut]
  exact ⟨_, rfl⟩
theorem thereP_lt {L : List (Pt × Int)} {p : Pt} (ht : thereP L p = true) : placeP L p < L.length := by
  rcases Nat.lt_or_ge (placeP L p) L.length with h | h
  · exact h
  · unfold thereP at ht
    rw [List.getElem?_eq_none h] at ht
    cases ht

set_option maxHeartbeats 1000000 in
theorem rrem_there (H : Heap) (q : Nat) (sl : NV) (L : List (Pt × Int)) (p : Pt) (hq : hget H q = some (.cells [sl] false)) (hg : GrE H (L.flatMap prC) sl) (hL : L.length ≤ 100) (ht : thereP L p = true) :
    DCall Try.prog 13 [.ptr (some (q, 0)), .agg (ptC p)] H fun r => r.1 = .bool true ∧ H.length ≤ r.2.length ∧ (∀ b, b < H.length → b ≠ q → hget r.2 b = hget H b) ∧ ∃ sl', hget r.2 q = some (.cells [sl'] false) ∧ GrE r.2 ((L.take (placeP L p) ++ L.drop (placeP L p + 1)).flatMap prC) sl' := by
  have lq := hget_some_lt hq
  refine call_det E0 rfl mixed t13_ok (by kernel_rfl) (by rintro q ⟨_, h, _⟩; exact h) ?_
  simp only [t13]
  simp (disch := first | omega | (simp only [List.length_append, List.length_cons, List.length_nil, length_hset, length_hkill]; omega)) only [↓fsPre, fsPost, fsCond, fsGen, npick, nbin, nun, nconv, nnilCheck, noff, nidxArr, nidxSl, nfield, npart, nindex, nextract, nlenSl, nlenStr, ncap, mmx, minmax2, nslice, nsliceArr, nbounds, obound, bound, adv, nbits, eqVal, eqCell, eqCells, nfill, lenOfSl, cls, fresults, fresl, fres1, gt_iff_lt, ge_iff_le, reduceCtorEq, Nat.reduceAdd, Nat.reduceMul, Nat.reduceSub, Nat.reduceLT, Nat.reduceLeDiff, Nat.reduceEqDiff, Nat.reduceBEq, Nat.reduceBNe, Int.reduceLT, Int.reduceLE, Int.reduceEq, Int.reduceNe, Int.reduceAdd, Int.reduceSub, Int.reduceNeg, Int.reduceToNat, Int.reduceMul, ↓reduceIte, Int.reduceGT, Int.reduceGE, ptC_one, ptC_cut]
  refine callT_one (place_ok _ q sl L p (by rw [hget_appl lq]; exact hq) (hg.mono fun b hb => hget_appl hb) hL) rfl ?_
  obtain ⟨A, c, rfl, hAc⟩ := hg.prs
  have hlt := thereP_lt ht
  rw [ht]
  generalize placeP L p = j at *
  rcases hAc with ⟨rfl, rfl⟩ | ⟨rfl, hp0, b, rfl, hb⟩
  · simp at hlt
  · have hbl := hget_some_lt hb
    have hcut : cut (L.flatMap prC) 0 (j * 9) = some ((L.take j).flatMap prC) := cut_take (by omega)
    simp (disch := first | omega | (simp only [List.length_append, List.length_cons, List.length_nil, length_hset, length_hkill]; omega)) only [↓fsPre, fsPost, fsCond, fsGen, npick, nbin, nun, nconv, nnilCheck, noff, nidxArr, nidxSl, nfield, npart, nindex, nextract, nlenSl, nlenStr, ncap, mmx, minmax2, nslice, nsliceArr, nbounds, obound, bound, adv, nbits, eqVal, eqCell, eqCells, nfill, lenOfSl, cls, fresults, fresl, fres1, gt_iff_lt, ge_iff_le, reduceCtorEq, Nat.reduceAdd, Nat.reduceMul, Nat.reduceSub, Nat.reduceLT, Nat.reduceLeDiff, Nat.reduceEqDiff, Nat.reduceBEq, Nat.reduceBNe, Int.reduceLT, Int.reduceLE, Int.reduceEq, Int.reduceNe, Int.reduceAdd, Int.reduceSub, Int.reduceNeg, Int.reduceToNat, Int.reduceMul, ↓reduceIte, Int.reduceGT, Int.reduceGE, ptC_one, ptC_cut, hq]
    refine gre_app (N := H.length + 2) (C := []) (new := (L.take j).flatMap prC) (.inl ⟨rfl, _, rfl⟩) (by simp) (fun b k e => by cases e) (sliceCells_at (by simp (disch := first | omega | (simp only [List.length_append, List.length_cons, List.length_nil, length_hset, length_hkill]; omega)) only [↓fsPre, fsPost, fsCond, fsGen, npick, nbin, nun, nconv, nnilCheck, noff, nidxArr, nidxSl, nfield, npart, nindex, nextract, nlenSl, nlenStr, ncap, mmx, minmax2, nslice, nsliceArr, nbounds, obound, bound, adv, nbits, eqVal, eqCell, eqCells, nfill, lenOfSl, cls, fresults, fresl, fres1, gt_iff_lt, ge_iff_le, reduceCtorEq, Nat.reduceAdd, Nat.reduceMul, Nat.reduceSub, Nat.reduceLT, Nat.reduceLeDiff, Nat.reduceEqDiff, Nat.reduceBEq, Nat.reduceBNe, Int.reduceLT, Int.reduceLE, Int.reduceEq, Int.reduceNe, Int.reduceAdd, Int.reduceSub, Int.reduceNeg, Int.reduceToNat, Int.reduceMul, ↓reduceIte, Int.reduceGT, Int.reduceGE, hb] <;> rfl) hcut) rfl (by rw [prs_length, List.length_take, Nat.min_eq_left (by omega)]) (by simp) (by omega) ?_
    intro v1 h1 g1 l1 n1 o1
    have e0 := o1 H.length (by omega)
    have eq := o1 q (by omega)
    have eb := o1 b (by omega)
    simp (disch := first | omega | (simp only [List.length_append, List.length_cons, List.length_nil, length_hset, length_hkill]; omega)) only [↓fsPre, fsPost, fsCond, fsGen, npick, nbin, nun, nconv, nnilCheck, noff, nidxArr, nidxSl, nfield, npart, nindex, nextract, nlenSl, nlenStr, ncap, mmx, minmax2, nslice, nsliceArr, nbounds, obound, bound, adv, nbits, eqVal, eqCell, eqCells, nfill, lenOfSl, cls, fresults, fresl, fres1, gt_iff_lt, ge_iff_le, reduceCtorEq, Nat.reduceAdd, Nat.reduceMul, Nat.reduceSub, Nat.reduceLT, Nat.reduceLeDiff, Nat.reduceEqDiff, Nat.reduceBEq, Nat.reduceBNe, Int.reduceLT, Int.reduceLE, Int.reduceEq, Int.reduceNe, Int.reduceAdd, Int.reduceSub, Int.reduceNeg, Int.reduceToNat, Int.reduceMul, ↓reduceIte, Int.reduceGT, Int.reduceGE] at e0 eq eb
    rw [hq] at eq
    rw [hb] at eb
    simp only [List.length_append, List.length_cons, List.length_nil] at l1
    have old2 : ∀ c, c < H.length → hget h1 c = hget H c := fun c hc => by rw [o1 c (by omega), hget_appl hc]
    have eq1 := eq
    have ej : ((j : Int) + 1).toNat = j + 1 := by omega
    simp (disch := first | omega | (simp only [List.length_append, List.length_cons, List.length_nil, length_hset, length_hkill]; omega)) only [↓fsPre, fsPost, fsCond, fsGen, npick, nbin, nun, nconv, nnilCheck, noff, nidxArr, nidxSl, nfield, npart, nindex, nextract, nlenSl, nlenStr, ncap, mmx, minmax2, nslice, nsliceArr, nbounds, obound, bound, adv, nbits, eqVal, eqCell, eqCells, nfill, lenOfSl, cls, fresults, fresl, fres1, gt_iff_lt, ge_iff_le, reduceCtorEq, Nat.reduceAdd, Nat.reduceMul, Nat.reduceSub, Nat.reduceLT, Nat.reduceLeDiff, Nat.reduceEqDiff, Nat.reduceBEq, Nat.reduceBNe, Int.reduceLT, Int.reduceLE, Int.reduceEq, Int.reduceNe, Int.reduceAdd, Int.reduceSub, Int.reduceNeg, Int.reduceToNat, Int.reduceMul, ↓reduceIte, Int.reduceGT, Int.reduceGE, ptC_one, ptC_cut, hq, e0, eq, eb, ej]
    refine ⟨by omega, ?_⟩
    refine gre_app (N := H.length + 2) (new := (L.drop (j + 1)).flatMap prC) g1 (by omega) n1 (sliceCells_at (by simp (disch := first | omega | (simp only [List.length_append, List.length_cons, List.length_nil, length_hset, length_hkill]; omega)) only [↓fsPre, fsPost, fsCond, fsGen, npick, nbin, nun, nconv, nnilCheck, noff, nidxArr, nidxSl, nfield, npart, nindex, nextract, nlenSl, nlenStr, ncap, mmx, minmax2, nslice, nsliceArr, nbounds, obound, bound, adv, nbits, eqVal, eqCell, eqCells, nfill, lenOfSl, cls, fresults, fresl, fres1, gt_iff_lt, ge_iff_le, reduceCtorEq, Nat.reduceAdd, Nat.reduceMul, Nat.reduceSub, Nat.reduceLT, Nat.reduceLeDiff, Nat.reduceEqDiff, Nat.reduceBEq, Nat.reduceBNe, Int.reduceLT, Int.reduceLE, Int.reduceEq, Int.reduceNe, Int.reduceAdd, Int.reduceSub, Int.reduceNeg, Int.reduceToNat, Int.reduceMul, ↓reduceIte, Int.reduceGT, Int.reduceGE, eb] <;> rfl) (cut_drop hlt)) rfl (by rw [prs_length, List.length_drop]) (by rw [List.nil_append, prs_length, List.length_take, Nat.min_eq_left (by omega)]; omega) (by omega) ?_
    intro v3 h3 g3 l3 n3 o3
    have eq2 := eq
    have eq := (o3 q (by omega)).trans eq
    have lq3 := hget_some_lt eq
    obtain ⟨o31, o32⟩ := g3.flat
    have hfin : GrE (hset h3 q (.cells [v3] false)) ((L.take j ++ L.drop (j + 1)).flatMap prC) v3 := by
      have : ((L.take j ++ L.drop (j + 1)).flatMap prC) = ([] ++ (L.take j).flatMap prC) ++ (L.drop (j + 1)).flatMap prC := by simp
      rw [this]
      exact g3.set n3 (by omega)
    simp (disch := first | omega | (simp only [List.length_append, List.length_cons, List.length_nil, length_hset, length_hkill]; omega)) only [↓fsPre, fsPost, fsCond, fsGen, npick, nbin, nun, nconv, nnilCheck, noff, nidxArr, nidxSl, nfield, npart, nindex, nextract, nlenSl, nlenStr, ncap, mmx, minmax2, nslice, nsliceArr, nbounds, obound, bound, adv, nbits, eqVal, eqCell, eqCells, nfill, lenOfSl, cls, fresults, fresl, fres1, gt_iff_lt, ge_iff_le, reduceCtorEq, Nat.reduceAdd, Nat.reduceMul, Nat.reduceSub, Nat.reduceLT, Nat.reduceLeDiff, Nat.reduceEqDiff, Nat.reduceBEq, Nat.reduceBNe, Int.reduceLT, Int.reduceLE, Int.reduceEq, Int.reduceNe, Int.reduceAdd, Int.reduceSub, Int.reduceNeg, Int.reduceToNat, Int.reduceMul, ↓reduceIte, Int.reduceGT, Int.reduceGE, ptC_one, ptC_cut, eq, o31, o32]
    refine ⟨by omega, by omega, by rw [eq1]; rfl, by omega, fun c hc hne => ?_, _, rfl, hfin⟩
    rw [hget_hset_ne (Ne.symm hne), o3 c (by omega)]
    exact old2 c hc
end Go.Proofs
