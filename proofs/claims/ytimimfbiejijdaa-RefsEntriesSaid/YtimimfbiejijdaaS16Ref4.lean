/- References: RefsEntries. -/
import Derived.Test.YtimimfbiejijdaaS16Ref3
set_option linter.unusedSimpArgs false
set_option linter.unusedVariables false
set_option maxRecDepth 100000
namespace Go.Proofs
open Go.Ns

theorem begun16_ok (h : Heap) : NCall Try.prog 15 [] h fun q => q = (.bool true, h) := call_run mixed (lk_ok tab_ok) (N := 1000) (D := 40) (by kernel_rfl) h

theorem flat_cut {rows : List (List NV)} (h : ∀ r ∈ rows, r.length = 5) (i : Nat) (hi : i < rows.length) : cut rows.flatten (i * 5) 5 = some rows[i] := by
  have : ∀ (rows : List (List NV)), (∀ r ∈ rows, r.length = 5) → ∀ i (hi : i < rows.length), (rows.flatten.drop (i * 5)).take 5 = rows[i] := by
    intro rows
    induction rows with
    | nil => intro _ i hi; simp at hi
    | cons r rows ih =>
      intro h i hi
      have hr := h r (List.mem_cons_self ..)
      cases i with
      | zero =>
        rw [List.flatten_cons, Nat.zero_mul, List.drop_zero, List.take_append_of_le_length (by omega), List.take_of_length_le (by omega)]; rfl
      | succ i =>
        rw [List.flatten_cons, List.drop_append, List.drop_eq_nil_of_le (by omega), List.nil_append, show (i + 1) * 5 - r.length = i * 5 by omega]
        exact ih (fun x hx => h x (List.mem_cons_of_mem _ hx)) i (by simpa using hi)
  unfold cut
  rw [if_pos (by rw [flat5 h]; omega), this rows h i hi]

set_option maxHeartbeats 4000000 in
theorem rentries_ok (H : Heap) (v w : NV) (xs ys : List Int) (hv : BytesArg H v xs) (hw : BytesArg H w ys) : NFun Try.prog 3 [v, w] H fun q => q.1 = .bool true := by
  refine fun_of_fwp E0 mixed t3_ok.2 (by kernel_rfl) ?_
  rw [fwp_T]
  simp only [t3]
  simp (disch := first | omega | (simp only [List.length_append, List.length_cons, List.length_nil, length_hset, length_hkill]; omega)) only [↓fsPre, fsPost, fsCond, fsGen, npick, nbin, nun, nconv, nnilCheck, noff, nidxArr, nidxSl, nfield, npart, nindex, nextract, nlenSl, nlenStr, ncap, mmx, minmax2, nslice, nsliceArr, nbounds, obound, bound, adv, nbits, eqVal, eqCell, eqCells, nfill, lenOfSl, cls, fresults, fresl, fres1, gt_iff_lt, ge_iff_le, reduceCtorEq, Nat.reduceAdd, Nat.reduceMul, Nat.reduceSub, Nat.reduceLT, Nat.reduceLeDiff, Nat.reduceEqDiff, Nat.reduceBEq, Nat.reduceBNe, Int.reduceLT, Int.reduceLE, Int.reduceEq, Int.reduceNe, Int.reduceAdd, Int.reduceSub, Int.reduceNeg, Int.reduceToNat, Int.reduceMul, ↓reduceIte, Int.reduceGT, Int.reduceGE]
  refine callT_D (referring_ok H v xs hv) rfl ?_
  rintro v1 g1 ⟨N, t, acs, z0, z1, z2, z3, z4, z5, z6, z7, z8, z9, e, sc, rv, hl1, old1⟩
  simp only at e sc rv hl1 old1
  subst e
  have hw1 : BytesArg g1 w ys := by
    rcases hw with r | ⟨b, m, cs, ro, h0, h1, h2⟩
    · exact .inl r
    · exact .inr ⟨b, m, cs, ro, h0, by rw [old1 b (hget_lt h1)]; exact h1, h2⟩
  simp (disch := first | omega | (simp only [List.length_append, List.length_cons, List.length_nil, length_hset, length_hkill]; omega)) only [↓fsPre, fsPost, fsCond, fsGen, npick, nbin, nun, nconv, nnilCheck, noff, nidxArr, nidxSl, nfield, npart, nindex, nextract, nlenSl, nlenStr, ncap, mmx, minmax2, nslice, nsliceArr, nbounds, obound, bound, adv, nbits, eqVal, eqCell, eqCells, nfill, lenOfSl, cls, fresults, fresl, fres1, gt_iff_lt, ge_iff_le, reduceCtorEq, Nat.reduceAdd, Nat.reduceMul, Nat.reduceSub, Nat.reduceLT, Nat.reduceLeDiff, Nat.reduceEqDiff, Nat.reduceBEq, Nat.reduceBNe, Int.reduceLT, Int.reduceLE, Int.reduceEq, Int.reduceNe, Int.reduceAdd, Int.reduceSub, Int.reduceNeg, Int.reduceToNat, Int.reduceMul, ↓reduceIte, Int.reduceGT, Int.reduceGE]
  refine callT_D (codes_ok g1 w ys 120 hw1 (by omega)) rfl ?_
  rintro v2 g2 ⟨sl, m, e, hs⟩
  cases e
  have hR := refsOf_le t
  obtain ⟨p0, p1, p2, p3, p4, p5, p6, p8, p9⟩ := rv.o
  have p7 : z7.one = true := by obtain ⟨b, c, _, _, rfl, _⟩ := rv.r; rfl
  simp (disch := first | omega | (simp only [List.length_append, List.length_cons, List.length_nil, length_hset, length_hkill]; omega)) only [↓fsPre, fsPost, fsCond, fsGen, npick, nbin, nun, nconv, nnilCheck, noff, nidxArr, nidxSl, nfield, npart, nindex, nextract, nlenSl, nlenStr, ncap, mmx, minmax2, nslice, nsliceArr, nbounds, obound, bound, adv, nbits, eqVal, eqCell, eqCells, nfill, lenOfSl, cls, fresults, fresl, fres1, gt_iff_lt, ge_iff_le, reduceCtorEq, Nat.reduceAdd, Nat.reduceMul, Nat.reduceSub, Nat.reduceLT, Nat.reduceLeDiff, Nat.reduceEqDiff, Nat.reduceBEq, Nat.reduceBNe, Int.reduceLT, Int.reduceLE, Int.reduceEq, Int.reduceNe, Int.reduceAdd, Int.reduceSub, Int.reduceNeg, Int.reduceToNat, Int.reduceMul, ↓reduceIte, Int.reduceGT, Int.reduceGE, p0, p1, p2, p3, p4, p5, p6, p7, p8, p9]
  have hG : ∀ b, b < g1.length → hget (g1 ++ [some (.cells [sl, .int .i64 0] false), some (.cells [z0, z1, z2, z3, z4, z5, z6, z7, z8, z9] false)]) b = hget g1 b := fun b hb => hget_appl hb
  have st0 : CodesSt (g1 ++ [some (.cells [sl, .int .i64 0] false), some (.cells [z0, z1, z2, z3, z4, z5, z6, z7, z8, z9] false)]) (g1 ++ [some (.cells [sl, .int .i64 0] false), some (.cells [z0, z1, z2, z3, z4, z5, z6, z7, z8, z9] false)]) g1.length m sl :=
    CodesSt.refl (a := 0) (by simp (disch := first | omega | (simp only [List.length_append, List.length_cons, List.length_nil, length_hset, length_hkill]; omega)) only [↓fsPre, fsPost, fsCond, fsGen, npick, nbin, nun, nconv, nnilCheck, noff, nidxArr, nidxSl, nfield, npart, nindex, nextract, nlenSl, nlenStr, ncap, mmx, minmax2, nslice, nsliceArr, nbounds, obound, bound, adv, nbits, eqVal, eqCell, eqCells, nfill, lenOfSl, cls, fresults, fresl, fres1, gt_iff_lt, ge_iff_le, reduceCtorEq, Nat.reduceAdd, Nat.reduceMul, Nat.reduceSub, Nat.reduceLT, Nat.reduceLeDiff, Nat.reduceEqDiff, Nat.reduceBEq, Nat.reduceBNe, Int.reduceLT, Int.reduceLE, Int.reduceEq, Int.reduceNe, Int.reduceAdd, Int.reduceSub, Int.reduceNeg, Int.reduceToNat, Int.reduceMul, ↓reduceIte, Int.reduceGT, Int.reduceGE]) (by omega) (by omega) (by have := hs.app (L := [some (.cells [z0, z1, z2, z3, z4, z5, z6, z7, z8, z9] false)]); simpa using this)
  have hb5 : hget (g1 ++ [some (.cells [sl, .int .i64 0] false), some (.cells [z0, z1, z2, z3, z4, z5, z6, z7, z8, z9] false)]) (g1.length + 1) = some (.cells [z0, z1, z2, z3, z4, z5, z6, z7, z8, z9] false) := by simp (disch := first | omega | (simp only [List.length_append, List.length_cons, List.length_nil, length_hset, length_hkill]; omega)) only [↓fsPre, fsPost, fsCond, fsGen, npick, nbin, nun, nconv, nnilCheck, noff, nidxArr, nidxSl, nfield, npart, nindex, nextract, nlenSl, nlenStr, ncap, mmx, minmax2, nslice, nsliceArr, nbounds, obound, bound, adv, nbits, eqVal, eqCell, eqCells, nfill, lenOfSl, cls, fresults, fresl, fres1, gt_iff_lt, ge_iff_le, reduceCtorEq, Nat.reduceAdd, Nat.reduceMul, Nat.reduceSub, Nat.reduceLT, Nat.reduceLeDiff, Nat.reduceEqDiff, Nat.reduceBEq, Nat.reduceBNe, Int.reduceLT, Int.reduceLE, Int.reduceEq, Int.reduceNe, Int.reduceAdd, Int.reduceSub, Int.reduceNeg, Int.reduceToNat, Int.reduceMul, ↓reduceIte, Int.reduceGT, Int.reduceGE]
  have hKl : (g1 ++ [some (NBlk.cells [sl, .int .i64 0] false), some (.cells [z0, z1, z2, z3, z4, z5, z6, z7, z8, z9] false)]).length = g1.length + 2 := by simp
  generalize g1 ++ [some (NBlk.cells [sl, .int .i64 0] false), some (.cells [z0, z1, z2, z3, z4, z5, z6, z7, z8, z9] false)] = K at *
  have keepG : ∀ h, CodesSt K h g1.length m sl → ∀ b, b < g1.length → hget h b = hget g1 b := fun h st b hb => (st.old b (by omega) (by omega)).trans (hG b hb)
  refine callT_D (entries_ok N K g1.length m sl st0 t acs z0 z1 z2 z3 z4 z5 z6 z7 z8 z9 (fun h st => sc.ext fun b x _ hb => by rw [keepG h st b (hget_lt hb)]; exact hb) 12 (by omega)) rfl ?_
  rintro vo G ⟨es, ⟨rows, hrl, hg, hrow⟩, hle, stG⟩
  simp only at hg hrow stG
  have rvG : RfV G (refsOf t) z0 z1 z2 z3 z4 z5 z6 z7 z8 z9 := rv.mono (keepG G stG)
  have b5G : hget G (g1.length + 1) = _ := (stG.old _ (by omega) (by omega)).trans hb5
  have hr5 : ∀ r ∈ rows, r.length = 5 := by
    intro r hr
    obtain ⟨i, hi, rfl⟩ := List.getElem_of_mem hr
    exact (hrow i hi (by omega)).1.length
  have hfl := flat5 hr5
  obtain ⟨oa, oc, on, hvo, hon⟩ := hg.shape (by omega)
  have hon2 : on = rows.length := by omega
  subst hon2
  subst hvo
  have l5 := hget_some_lt b5G
  simp (disch := first | omega | (simp only [List.length_append, List.length_cons, List.length_nil, length_hset, length_hkill]; omega)) only [↓fsPre, fsPost, fsCond, fsGen, npick, nbin, nun, nconv, nnilCheck, noff, nidxArr, nidxSl, nfield, npart, nindex, nextract, nlenSl, nlenStr, ncap, mmx, minmax2, nslice, nsliceArr, nbounds, obound, bound, adv, nbits, eqVal, eqCell, eqCells, nfill, lenOfSl, cls, fresults, fresl, fres1, gt_iff_lt, ge_iff_le, reduceCtorEq, Nat.reduceAdd, Nat.reduceMul, Nat.reduceSub, Nat.reduceLT, Nat.reduceLeDiff, Nat.reduceEqDiff, Nat.reduceBEq, Nat.reduceBNe, Int.reduceLT, Int.reduceLE, Int.reduceEq, Int.reduceNe, Int.reduceAdd, Int.reduceSub, Int.reduceNeg, Int.reduceToNat, Int.reduceMul, ↓reduceIte, Int.reduceGT, Int.reduceGE]
  refine wloop (fun k F h => F 5 = .ptr (some (g1.length + 1, 0)) ∧ F 15 = .slice oa rows.length oc ∧ F 16 = .int .i64 rows.length ∧ F 17 = .int .i64 k ∧ G.length ≤ h.length ∧ ∀ b, b < G.length → hget h b = hget G b) rows.length ?_ ?_ ?_
  · simp (disch := first | omega | (simp only [List.length_append, List.length_cons, List.length_nil, length_hset, length_hkill]; omega)) only [↓fsPre, fsPost, fsCond, fsGen, npick, nbin, nun, nconv, nnilCheck, noff, nidxArr, nidxSl, nfield, npart, nindex, nextract, nlenSl, nlenStr, ncap, mmx, minmax2, nslice, nsliceArr, nbounds, obound, bound, adv, nbits, eqVal, eqCell, eqCells, nfill, lenOfSl, cls, fresults, fresl, fres1, gt_iff_lt, ge_iff_le, reduceCtorEq, Nat.reduceAdd, Nat.reduceMul, Nat.reduceSub, Nat.reduceLT, Nat.reduceLeDiff, Nat.reduceEqDiff, Nat.reduceBEq, Nat.reduceBNe, Int.reduceLT, Int.reduceLE, Int.reduceEq, Int.reduceNe, Int.reduceAdd, Int.reduceSub, Int.reduceNeg, Int.reduceToNat, Int.reduceMul, ↓reduceIte, Int.reduceGT, Int.reduceGE]
    done
  · rintro k F h hk ⟨f5, f15, f16, f17, hl, old⟩
    obtain ⟨hen, hok, _⟩ := hrow k hk (by omega)
    obtain ⟨bo, hoa, hbo, hck⟩ : ∃ bo, oa = some (bo, 0) ∧ hget G bo = some (.cells rows.flatten false) ∧ cut rows.flatten (k * 5) 5 = some rows[k] := by
      rcases hg with ⟨h1, h2⟩ | ⟨bo, n, h2, _, h3, _⟩
      · have := congrArg List.length h1
        rw [hfl] at this
        simp at this; omega
      · cases h2
        exact ⟨bo, rfl, h3, flat_cut hr5 k hk⟩
    subst hoa
    have hbol := hget_some_lt hbo
    have hbo' : hget h bo = some (.cells rows.flatten false) := (old bo hbol).trans hbo
    have b5 : hget h (g1.length + 1) = _ := (old _ l5).trans b5G
    generalize es[k] = e at *
    generalize rows[k] = row at *
    obtain ⟨mv, av, hrw, om, oav, _⟩ := hen.parts
    subst hrw
    have hfor := refsOf_ok t e hok
    simp (disch := first | omega | (simp only [List.length_append, List.length_cons, List.length_nil, length_hset, length_hkill]; omega)) only [↓fsPre, fsPost, fsCond, fsGen, npick, nbin, nun, nconv, nnilCheck, noff, nidxArr, nidxSl, nfield, npart, nindex, nextract, nlenSl, nlenStr, ncap, mmx, minmax2, nslice, nsliceArr, nbounds, obound, bound, adv, nbits, eqVal, eqCell, eqCells, nfill, lenOfSl, cls, fresults, fresl, fres1, gt_iff_lt, ge_iff_le, reduceCtorEq, Nat.reduceAdd, Nat.reduceMul, Nat.reduceSub, Nat.reduceLT, Nat.reduceLeDiff, Nat.reduceEqDiff, Nat.reduceBEq, Nat.reduceBNe, Int.reduceLT, Int.reduceLE, Int.reduceEq, Int.reduceNe, Int.reduceAdd, Int.reduceSub, Int.reduceNeg, Int.reduceToNat, Int.reduceMul, ↓reduceIte, Int.reduceGT, Int.reduceGE, f5, f15, f16, f17, hbo', hck, b5, om, oav, p0, p1, p2, p3, p4, p5, p6, p7, p8, p9]
    generalize hB : h ++ [some (NBlk.cells [.int .i64 e.tab, mv, .int .i64 e.pr, .int .i64 e.act, av] false)] = h1 at *
    have hl1 : h1.length = h.length + 1 := by rw [← hB]; simp
    have hb8 : hget h1 h.length = some (.cells [.int .i64 e.tab, mv, .int .i64 e.pr, .int .i64 e.act, av] false) := by rw [← hB]; simp (disch := first | omega | (simp only [List.length_append, List.length_cons, List.length_nil, length_hset, length_hkill]; omega)) only [↓fsPre, fsPost, fsCond, fsGen, npick, nbin, nun, nconv, nnilCheck, noff, nidxArr, nidxSl, nfield, npart, nindex, nextract, nlenSl, nlenStr, ncap, mmx, minmax2, nslice, nsliceArr, nbounds, obound, bound, adv, nbits, eqVal, eqCell, eqCells, nfill, lenOfSl, cls, fresults, fresl, fres1, gt_iff_lt, ge_iff_le, reduceCtorEq, Nat.reduceAdd, Nat.reduceMul, Nat.reduceSub, Nat.reduceLT, Nat.reduceLeDiff, Nat.reduceEqDiff, Nat.reduceBEq, Nat.reduceBNe, Int.reduceLT, Int.reduceLE, Int.reduceEq, Int.reduceNe, Int.reduceAdd, Int.reduceSub, Int.reduceNeg, Int.reduceToNat, Int.reduceMul, ↓reduceIte, Int.reduceGT, Int.reduceGE]
    have old1' : ∀ b, b < h.length → hget h1 b = hget h b := fun b hb => by rw [← hB]; exact hget_appl hb
    have oldG : ∀ b, b < G.length → hget h1 b = hget G b := fun b hb => (old1' b (by omega)).trans (old b hb)
    have b51 : hget h1 (g1.length + 1) = _ := (old1' _ (by omega)).trans b5
    refine callDT_D (needs_ok K.length h1 (refsOf t) z0 z1 z2 z3 z4 z5 z6 z7 z8 z9 (rvG.mono oldG) hR _ e (hen.mono oldG) hfor) rfl ?_
    rintro va h2 ⟨l2, o2, ga⟩
    simp only at l2 o2 ga
    have b52 : hget h2 (g1.length + 1) = _ := (o2 _ (by omega)).trans b51
    have hb82 : hget h2 h.length = _ := (o2 _ (by omega)).trans hb8
    simp (disch := first | omega | (simp only [List.length_append, List.length_cons, List.length_nil, length_hset, length_hkill]; omega)) only [↓fsPre, fsPost, fsCond, fsGen, npick, nbin, nun, nconv, nnilCheck, noff, nidxArr, nidxSl, nfield, npart, nindex, nextract, nlenSl, nlenStr, ncap, mmx, minmax2, nslice, nsliceArr, nbounds, obound, bound, adv, nbits, eqVal, eqCell, eqCells, nfill, lenOfSl, cls, fresults, fresl, fres1, gt_iff_lt, ge_iff_le, reduceCtorEq, Nat.reduceAdd, Nat.reduceMul, Nat.reduceSub, Nat.reduceLT, Nat.reduceLeDiff, Nat.reduceEqDiff, Nat.reduceBEq, Nat.reduceBNe, Int.reduceLT, Int.reduceLE, Int.reduceEq, Int.reduceNe, Int.reduceAdd, Int.reduceSub, Int.reduceNeg, Int.reduceToNat, Int.reduceMul, ↓reduceIte, Int.reduceGT, Int.reduceGE, f5, b51, b52, hb8, hb82, l2]
    have oldG2 : ∀ b, b < G.length → hget h2 b = hget G b := fun b hb => (o2 b (by omega)).trans (oldG b hb)
    refine callDT_D (rneeds_ok K.length h2 (refsOf t) z0 z1 z2 z3 z4 z5 z6 z7 z8 z9 (rvG.mono oldG2) hR _ e (hen.mono oldG2) hfor) rfl ?_
    rintro vb h3 ⟨l3, o3, gb⟩
    simp only at l3 o3 gb
    have b53 : hget h3 (g1.length + 1) = _ := (o3 _ (by omega)).trans b52
    have hb83 : hget h3 h.length = _ := (o3 _ (by omega)).trans hb82
    have ga3 : GrC h3 h1.length (tC (needsL (refsOf t) e)) 4 va := ga.ext fun b x _ hx => by rw [o3 b (hget_lt hx)]; exact hx
    have hnl := needsL_le (refsOf t) e
    have l13 : h1.length ≤ h3.length := by omega
    simp (disch := first | omega | (simp only [List.length_append, List.length_cons, List.length_nil, length_hset, length_hkill]; omega)) only [↓fsPre, fsPost, fsCond, fsGen, npick, nbin, nun, nconv, nnilCheck, noff, nidxArr, nidxSl, nfield, npart, nindex, nextract, nlenSl, nlenStr, ncap, mmx, minmax2, nslice, nsliceArr, nbounds, obound, bound, adv, nbits, eqVal, eqCell, eqCells, nfill, lenOfSl, cls, fresults, fresl, fres1, gt_iff_lt, ge_iff_le, reduceCtorEq, Nat.reduceAdd, Nat.reduceMul, Nat.reduceSub, Nat.reduceLT, Nat.reduceLeDiff, Nat.reduceEqDiff, Nat.reduceBEq, Nat.reduceBNe, Int.reduceLT, Int.reduceLE, Int.reduceEq, Int.reduceNe, Int.reduceAdd, Int.reduceSub, Int.reduceNeg, Int.reduceToNat, Int.reduceMul, ↓reduceIte, Int.reduceGT, Int.reduceGE, f5, b51, b52, b53, hb8, hb82, hb83, l2, l13]
    refine callDT_one (targets_ok _ _ h3 _ va vb ga3 gb (by omega)) rfl ?_
    simp (disch := first | omega | (simp only [List.length_append, List.length_cons, List.length_nil, length_hset, length_hkill]; omega)) only [↓fsPre, fsPost, fsCond, fsGen, npick, nbin, nun, nconv, nnilCheck, noff, nidxArr, nidxSl, nfield, npart, nindex, nextract, nlenSl, nlenStr, ncap, mmx, minmax2, nslice, nsliceArr, nbounds, obound, bound, adv, nbits, eqVal, eqCell, eqCells, nfill, lenOfSl, cls, fresults, fresl, fres1, gt_iff_lt, ge_iff_le, reduceCtorEq, Nat.reduceAdd, Nat.reduceMul, Nat.reduceSub, Nat.reduceLT, Nat.reduceLeDiff, Nat.reduceEqDiff, Nat.reduceBEq, Nat.reduceBNe, Int.reduceLT, Int.reduceLE, Int.reduceEq, Int.reduceNe, Int.reduceAdd, Int.reduceSub, Int.reduceNeg, Int.reduceToNat, Int.reduceMul, ↓reduceIte, Int.reduceGT, Int.reduceGE, f5, b51, b52, b53, hb8, hb82, hb83, l2, l13]
    have oldG3 : ∀ b, b < G.length → hget h3 b = hget G b := fun b hb => (o3 b (by omega)).trans (oldG2 b hb)
    refine callDT_D (provides_ok K.length h3 (refsOf t) z0 z1 z2 z3 z4 z5 z6 z7 z8 z9 (rvG.mono oldG3) hR _ e (hen.mono oldG3) hfor) rfl ?_
    rintro vc h4 ⟨l4, o4, gc⟩
    simp only at l4 o4 gc
    have b54 : hget h4 (g1.length + 1) = _ := (o4 _ (by omega)).trans b53
    have hb84 : hget h4 h.length = _ := (o4 _ (by omega)).trans hb83
    have l14 : h1.length ≤ h4.length := by omega
    simp (disch := first | omega | (simp only [List.length_append, List.length_cons, List.length_nil, length_hset, length_hkill]; omega)) only [↓fsPre, fsPost, fsCond, fsGen, npick, nbin, nun, nconv, nnilCheck, noff, nidxArr, nidxSl, nfield, npart, nindex, nextract, nlenSl, nlenStr, ncap, mmx, minmax2, nslice, nsliceArr, nbounds, obound, bound, adv, nbits, eqVal, eqCell, eqCells, nfill, lenOfSl, cls, fresults, fresl, fres1, gt_iff_lt, ge_iff_le, reduceCtorEq, Nat.reduceAdd, Nat.reduceMul, Nat.reduceSub, Nat.reduceLT, Nat.reduceLeDiff, Nat.reduceEqDiff, Nat.reduceBEq, Nat.reduceBNe, Int.reduceLT, Int.reduceLE, Int.reduceEq, Int.reduceNe, Int.reduceAdd, Int.reduceSub, Int.reduceNeg, Int.reduceToNat, Int.reduceMul, ↓reduceIte, Int.reduceGT, Int.reduceGE, f5, b51, b52, b53, b54, hb8, hb82, hb83, hb84, l2, l13, l14]
    have oldG4 : ∀ b, b < G.length → hget h4 b = hget G b := fun b hb => (o4 b (by omega)).trans (oldG3 b hb)
    refine callDT_D (rprovides_ok K.length h4 (refsOf t) z0 z1 z2 z3 z4 z5 z6 z7 z8 z9 (rvG.mono oldG4) hR _ e (hen.mono oldG4) hfor) rfl ?_
    rintro vd h5 ⟨l5', o5, gd⟩
    simp only at l5' o5 gd
    have b55 : hget h5 (g1.length + 1) = _ := (o5 _ (by omega)).trans b54
    have hb85 : hget h5 h.length = _ := (o5 _ (by omega)).trans hb84
    have gc5 : GrC h5 h3.length (tC (provL (refsOf t) e)) 4 vc := gc.ext fun b x _ hx => by rw [o5 b (hget_lt hx)]; exact hx
    have hpl := provL_le (refsOf t) e
    have l15 : h1.length ≤ h5.length := by omega
    simp (disch := first | omega | (simp only [List.length_append, List.length_cons, List.length_nil, length_hset, length_hkill]; omega)) only [↓fsPre, fsPost, fsCond, fsGen, npick, nbin, nun, nconv, nnilCheck, noff, nidxArr, nidxSl, nfield, npart, nindex, nextract, nlenSl, nlenStr, ncap, mmx, minmax2, nslice, nsliceArr, nbounds, obound, bound, adv, nbits, eqVal, eqCell, eqCells, nfill, lenOfSl, cls, fresults, fresl, fres1, gt_iff_lt, ge_iff_le, reduceCtorEq, Nat.reduceAdd, Nat.reduceMul, Nat.reduceSub, Nat.reduceLT, Nat.reduceLeDiff, Nat.reduceEqDiff, Nat.reduceBEq, Nat.reduceBNe, Int.reduceLT, Int.reduceLE, Int.reduceEq, Int.reduceNe, Int.reduceAdd, Int.reduceSub, Int.reduceNeg, Int.reduceToNat, Int.reduceMul, ↓reduceIte, Int.reduceGT, Int.reduceGE, f5, b51, b52, b53, b54, b55, hb8, hb82, hb83, hb84, hb85, l2, l13, l14, l15]
    refine callDT_one (targets_ok _ _ h5 _ vc vd gc5 gd (by omega)) rfl ?_
    simp (disch := first | omega | (simp only [List.length_append, List.length_cons, List.length_nil, length_hset, length_hkill]; omega)) only [↓fsPre, fsPost, fsCond, fsGen, npick, nbin, nun, nconv, nnilCheck, noff, nidxArr, nidxSl, nfield, npart, nindex, nextract, nlenSl, nlenStr, ncap, mmx, minmax2, nslice, nsliceArr, nbounds, obound, bound, adv, nbits, eqVal, eqCell, eqCells, nfill, lenOfSl, cls, fresults, fresl, fres1, gt_iff_lt, ge_iff_le, reduceCtorEq, Nat.reduceAdd, Nat.reduceMul, Nat.reduceSub, Nat.reduceLT, Nat.reduceLeDiff, Nat.reduceEqDiff, Nat.reduceBEq, Nat.reduceBNe, Int.reduceLT, Int.reduceLE, Int.reduceEq, Int.reduceNe, Int.reduceAdd, Int.reduceSub, Int.reduceNeg, Int.reduceToNat, Int.reduceMul, ↓reduceIte, Int.reduceGT, Int.reduceGE, f5, f15, f16, f17, b51, b52, b53, b54, b55, hb8, hb82, hb83, hb84, hb85, l2, l13, l14, l15]
    exact ⟨by omega, fun b hb => (o5 b (by omega)).trans (oldG4 b hb)⟩
  · rintro F h ⟨f5, f15, f16, f17, hl, old⟩
    simp (disch := first | omega | (simp only [List.length_append, List.length_cons, List.length_nil, length_hset, length_hkill]; omega)) only [↓fsPre, fsPost, fsCond, fsGen, npick, nbin, nun, nconv, nnilCheck, noff, nidxArr, nidxSl, nfield, npart, nindex, nextract, nlenSl, nlenStr, ncap, mmx, minmax2, nslice, nsliceArr, nbounds, obound, bound, adv, nbits, eqVal, eqCell, eqCells, nfill, lenOfSl, cls, fresults, fresl, fres1, gt_iff_lt, ge_iff_le, reduceCtorEq, Nat.reduceAdd, Nat.reduceMul, Nat.reduceSub, Nat.reduceLT, Nat.reduceLeDiff, Nat.reduceEqDiff, Nat.reduceBEq, Nat.reduceBNe, Int.reduceLT, Int.reduceLE, Int.reduceEq, Int.reduceNe, Int.reduceAdd, Int.reduceSub, Int.reduceNeg, Int.reduceToNat, Int.reduceMul, ↓reduceIte, Int.reduceGT, Int.reduceGE, f5, f15, f16, f17]
    refine callT_one (begun16_ok _) rfl ?_
    simp (disch := first | omega | (simp only [List.length_append, List.length_cons, List.length_nil, length_hset, length_hkill]; omega)) only [↓fsPre, fsPost, fsCond, fsGen, npick, nbin, nun, nconv, nnilCheck, noff, nidxArr, nidxSl, nfield, npart, nindex, nextract, nlenSl, nlenStr, ncap, mmx, minmax2, nslice, nsliceArr, nbounds, obound, bound, adv, nbits, eqVal, eqCell, eqCells, nfill, lenOfSl, cls, fresults, fresl, fres1, gt_iff_lt, ge_iff_le, reduceCtorEq, Nat.reduceAdd, Nat.reduceMul, Nat.reduceSub, Nat.reduceLT, Nat.reduceLeDiff, Nat.reduceEqDiff, Nat.reduceBEq, Nat.reduceBNe, Int.reduceLT, Int.reduceLE, Int.reduceEq, Int.reduceNe, Int.reduceAdd, Int.reduceSub, Int.reduceNeg, Int.reduceToNat, Int.reduceMul, ↓reduceIte, Int.reduceGT, Int.reduceGE]

def kindsRE : List PK := [.sl [.int .u8], .sl [.int .u8]]
theorem walkRE (nvs : List NV) (h : Heap) (ok : argsOK kindsRE 0 nvs h) : NFun Try.prog 3 nvs h (fun q => q.1 = .bool true) := by
  obtain ⟨v, vs, x, h, rfl, rfl, h1, ok⟩ := argsOK_cons ok
  obtain ⟨w, vs, y, h, rfl, rfl, h2, ok⟩ := argsOK_cons ok
  obtain ⟨rfl, rfl⟩ := argsOK_nil ok
  obtain ⟨xs, hx⟩ := argOK_bytes (H := [x, y]) h1 rfl
  obtain ⟨ys, hy⟩ := argOK_bytes (H := [x, y]) h2 rfl
  exact rentries_ok _ _ _ xs ys hx hy
end Go.Proofs
