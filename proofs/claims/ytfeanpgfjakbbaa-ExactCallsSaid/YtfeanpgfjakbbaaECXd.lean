/- Exact: ExactOrder. -/
import Derived.Test.YtfeanpgfjakbbaaECXc
set_option linter.unusedSimpArgs false
set_option linter.unusedVariables false
set_option maxRecDepth 100000
namespace Go.Proofs
open Go.Ns

noncomputable def prO (o : XOp) : Pt × Int := (o.point, o.id)
theorem OpsArg.shape {H : Heap} {v : NV} {os : List XOp} (h : OpsArg H v os) : ∃ A m, v = .slice A os.length (.fix m) ∧ os.length ≤ m ∧ m ≤ 9223372036854775807 ∧ (0 < os.length → ∃ b cs ro, A = some (b, 0) ∧ hget H b = some (.cells cs ro) ∧ ∀ i (hi : i < os.length), cut cs (i * 11) 11 = some (opC os[i])) := by
  rcases h.2 with ⟨rfl, rfl⟩ | ⟨b, m, cs, ro, rfl, h1, h2, h3, h4⟩
  · exact ⟨none, 0, rfl, by simp, by omega, fun h => absurd h (by simp)⟩
  · exact ⟨_, m, rfl, h2, h3, fun _ => ⟨b, cs, ro, rfl, h1, h4⟩⟩
theorem ops_length (l : List XOp) : (l.flatMap opC).length = l.length * 11 := length_flatMap_enc opC_length l

theorem opC_fill (o : XOp) : opC o ++ List.drop (opC o).length [NV.int .i64 0, NV.int .u8 0, NV.int .u64 0, NV.int .u64 0, NV.int .u64 0, NV.int .u64 0, NV.int .u64 0, NV.int .u64 0, NV.int .u64 0, NV.int .u64 0, NV.int .i64 0] = opC o := by
  rw [opC_length]; exact List.append_nil _
theorem opC_id (o : XOp) : (opC o)[10]? = some (.int .i64 o.id) := rfl
/-- Calls as they lie in a block that is kept. -/
def OIn (P : Nat → Prop) (h : Heap) (A : Option (Nat × Nat)) (os : List XOp) : Prop := 0 < os.length → ∃ b cs ro, A = some (b, 0) ∧ P b ∧ hget h b = some (.cells cs ro) ∧ ∀ i (hi : i < os.length), cut cs (i * 11) 11 = some (opC os[i])
theorem OIn.keep {P P' : Nat → Prop} {h h' : Heap} {A : Option (Nat × Nat)} {os : List XOp} (x : OIn P h A os) (k : ∀ b, P b → b < h.length → hget h' b = hget h b) (p : ∀ b, P b → P' b) : OIn P' h' A os := fun h0 => by
  obtain ⟨b, cs, ro, x1, x2, x3, x4⟩ := x h0
  exact ⟨b, cs, ro, x1, p b x2, by rw [k b x2 (hget_lt x3)]; exact x3, x4⟩
theorem ops_shape {h : Heap} {N : Nat} {os : List XOp} {v : NV} (g : GrC h N (os.flatMap opC) 11 v) : ∃ A c, v = .slice A os.length c ∧ OIn (fun b => N ≤ b) h A os := by
  rcases g with ⟨h1, h2⟩ | ⟨b, k, h1, h2, h3, h4, h5⟩
  · have : os = [] := by
      cases os with
      | nil => rfl
      | cons a l => simp [opC] at h1
    subst this
    exact ⟨none, .fix 0, h2, fun h => absurd h (by simp)⟩
  · rw [ops_length] at h4
    have hk : k = os.length := by omega
    subst hk
    exact ⟨some (b, 0), .opn 11, h1, fun _ => ⟨b, _, _, rfl, h2, h3, fun i hi => cut_flatMap opC_length hi⟩⟩
theorem delL_head (x : Pt × Int) (l : List (Pt × Int)) : delL (x :: l) x.1 = l := by
  unfold delL findL; rw [if_pos rfl]; rfl
theorem eq_pr (x : Pt × Int) : eqCells [.int, .int, .int, .int, .int, .int, .int, .int, .int] (prC x) (prC x) = some true := by
  simp only [prC, ptC, List.cons_append, List.nil_append, eqCells, eqCell_nb]
  simp [eqCell]
theorem prC_one (x : Pt × Int) : (prC x).all NV.one = true := rfl
theorem prs_keys (l : List XOp) : (l.map prO).map (·.1) = l.map XOp.point := by simp [prO]

set_option maxHeartbeats 4000000 in
theorem order_ok (H : Heap) (v1 v2 : NV) (os1 os2 : List XOp) (h1 : OpsArg H v1 os1) (h2 : OpsArg H v2 os2) : NFun Try.prog 3 [v1, v2] H fun q => q.1 = .bool true := by
  refine fun_of_fwp E0 mixed t3_ok.2 (by kernel_rfl) ?_
  rw [fwp_T]
  simp only [t3]
  obtain ⟨A1, m1, rfl, hm1, hm1', hA1⟩ := h1.shape
  obtain ⟨A2, m2, rfl, hm2, hm2', hA2⟩ := h2.shape
  have eN : ∀ n : Nat, (if (20 : Int) < n then (20 : Int) else n) = (min 20 n : Nat) := by intro n; split <;> omega
  have hN1 : min 20 os1.length ≤ 20 ∧ min 20 os1.length ≤ os1.length := by omega
  have hN2 : min 20 os2.length ≤ 20 ∧ min 20 os2.length ≤ os2.length := by omega
  have eN1 := eN os1.length
  have eN2 := eN os2.length
  generalize min 20 os1.length = N1 at *
  generalize min 20 os2.length = N2 at *
  have eA1 : (if m1 = 0 then A1 else Option.map (fun x => (x.fst, x.snd)) A1) = A1 := by cases A1 <;> simp
  have eA2 : (if m2 = 0 then A2 else Option.map (fun x => (x.fst, x.snd)) A2) = A2 := by cases A2 <;> simp
  simp (disch := first | omega | (simp only [List.length_append, List.length_cons, List.length_nil, length_hset, length_hkill]; omega)) only [↓fsPre, fsPost, fsCond, fsGen, npick, nbin, nun, nconv, nnilCheck, noff, nidxArr, nidxSl, nfield, npart, nindex, nextract, nlenSl, nlenStr, ncap, mmx, minmax2, nslice, nsliceArr, nbounds, obound, bound, adv, nbits, eqVal, eqCell, eqCells, nfill, lenOfSl, cls, fresults, fresl, fres1, gt_iff_lt, ge_iff_le, reduceCtorEq, Nat.reduceAdd, Nat.reduceMul, Nat.reduceSub, Nat.reduceLT, Nat.reduceLeDiff, Nat.reduceEqDiff, Nat.reduceBEq, Nat.reduceBNe, Int.reduceLT, Int.reduceLE, Int.reduceEq, Int.reduceNe, Int.reduceAdd, Int.reduceSub, Int.reduceNeg, Int.reduceToNat, Int.reduceMul, ↓reduceIte, Int.reduceGT, Int.reduceGE, eN1, eN2, eA1, eA2]
  refine callT_one (xnew_ok _) rfl ?_
  simp (disch := first | omega | (simp only [List.length_append, List.length_cons, List.length_nil, length_hset, length_hkill]; omega)) only [↓fsPre, fsPost, fsCond, fsGen, npick, nbin, nun, nconv, nnilCheck, noff, nidxArr, nidxSl, nfield, npart, nindex, nextract, nlenSl, nlenStr, ncap, mmx, minmax2, nslice, nsliceArr, nbounds, obound, bound, adv, nbits, eqVal, eqCell, eqCells, nfill, lenOfSl, cls, fresults, fresl, fres1, gt_iff_lt, ge_iff_le, reduceCtorEq, Nat.reduceAdd, Nat.reduceMul, Nat.reduceSub, Nat.reduceLT, Nat.reduceLeDiff, Nat.reduceEqDiff, Nat.reduceBEq, Nat.reduceBNe, Int.reduceLT, Int.reduceLE, Int.reduceEq, Int.reduceNe, Int.reduceAdd, Int.reduceSub, Int.reduceNeg, Int.reduceToNat, Int.reduceMul, ↓reduceIte, Int.reduceGT, Int.reduceGE]
  refine callT_one (xnew_ok _) rfl ?_
  simp (disch := first | omega | (simp only [List.length_append, List.length_cons, List.length_nil, length_hset, length_hkill]; omega)) only [↓fsPre, fsPost, fsCond, fsGen, npick, nbin, nun, nconv, nnilCheck, noff, nidxArr, nidxSl, nfield, npart, nindex, nextract, nlenSl, nlenStr, ncap, mmx, minmax2, nslice, nsliceArr, nbounds, obound, bound, adv, nbits, eqVal, eqCell, eqCells, nfill, lenOfSl, cls, fresults, fresl, fres1, gt_iff_lt, ge_iff_le, reduceCtorEq, Nat.reduceAdd, Nat.reduceMul, Nat.reduceSub, Nat.reduceLT, Nat.reduceLeDiff, Nat.reduceEqDiff, Nat.reduceBEq, Nat.reduceBNe, Int.reduceLT, Int.reduceLE, Int.reduceEq, Int.reduceNe, Int.reduceAdd, Int.reduceSub, Int.reduceNeg, Int.reduceToNat, Int.reduceMul, ↓reduceIte, Int.reduceGT, Int.reduceGE]
  have hIx : IxAt (H ++ [some (.map [] 0), some (.cells [.map (some H.length)] false), some (.map [] 0), some (.cells [.map (some (H.length + 2))] false)]) (H.length + 1) H.length [] :=
    ⟨by simp (disch := first | omega | (simp only [List.length_append, List.length_cons, List.length_nil, length_hset, length_hkill]; omega)) only [↓fsPre, fsPost, fsCond, fsGen, npick, nbin, nun, nconv, nnilCheck, noff, nidxArr, nidxSl, nfield, npart, nindex, nextract, nlenSl, nlenStr, ncap, mmx, minmax2, nslice, nsliceArr, nbounds, obound, bound, adv, nbits, eqVal, eqCell, eqCells, nfill, lenOfSl, cls, fresults, fresl, fres1, gt_iff_lt, ge_iff_le, reduceCtorEq, Nat.reduceAdd, Nat.reduceMul, Nat.reduceSub, Nat.reduceLT, Nat.reduceLeDiff, Nat.reduceEqDiff, Nat.reduceBEq, Nat.reduceBNe, Int.reduceLT, Int.reduceLE, Int.reduceEq, Int.reduceNe, Int.reduceAdd, Int.reduceSub, Int.reduceNeg, Int.reduceToNat, Int.reduceMul, ↓reduceIte, Int.reduceGT, Int.reduceGE], ⟨[], 0, by simp (disch := first | omega | (simp only [List.length_append, List.length_cons, List.length_nil, length_hset, length_hkill]; omega)) only [↓fsPre, fsPost, fsCond, fsGen, npick, nbin, nun, nconv, nnilCheck, noff, nidxArr, nidxSl, nfield, npart, nindex, nextract, nlenSl, nlenStr, ncap, mmx, minmax2, nslice, nsliceArr, nbounds, obound, bound, adv, nbits, eqVal, eqCell, eqCells, nfill, lenOfSl, cls, fresults, fresl, fres1, gt_iff_lt, ge_iff_le, reduceCtorEq, Nat.reduceAdd, Nat.reduceMul, Nat.reduceSub, Nat.reduceLT, Nat.reduceLeDiff, Nat.reduceEqDiff, Nat.reduceBEq, Nat.reduceBNe, Int.reduceLT, Int.reduceLE, Int.reduceEq, Int.reduceNe, Int.reduceAdd, Int.reduceSub, Int.reduceNeg, Int.reduceToNat, Int.reduceMul, ↓reduceIte, Int.reduceGT, Int.reduceGE], rfl, List.nodup_nil, by simp⟩, by omega⟩
  have hIy : IxAt (H ++ [some (.map [] 0), some (.cells [.map (some H.length)] false), some (.map [] 0), some (.cells [.map (some (H.length + 2))] false)]) (H.length + 3) (H.length + 2) [] :=
    ⟨by simp (disch := first | omega | (simp only [List.length_append, List.length_cons, List.length_nil, length_hset, length_hkill]; omega)) only [↓fsPre, fsPost, fsCond, fsGen, npick, nbin, nun, nconv, nnilCheck, noff, nidxArr, nidxSl, nfield, npart, nindex, nextract, nlenSl, nlenStr, ncap, mmx, minmax2, nslice, nsliceArr, nbounds, obound, bound, adv, nbits, eqVal, eqCell, eqCells, nfill, lenOfSl, cls, fresults, fresl, fres1, gt_iff_lt, ge_iff_le, reduceCtorEq, Nat.reduceAdd, Nat.reduceMul, Nat.reduceSub, Nat.reduceLT, Nat.reduceLeDiff, Nat.reduceEqDiff, Nat.reduceBEq, Nat.reduceBNe, Int.reduceLT, Int.reduceLE, Int.reduceEq, Int.reduceNe, Int.reduceAdd, Int.reduceSub, Int.reduceNeg, Int.reduceToNat, Int.reduceMul, ↓reduceIte, Int.reduceGT, Int.reduceGE], ⟨[], 0, by simp (disch := first | omega | (simp only [List.length_append, List.length_cons, List.length_nil, length_hset, length_hkill]; omega)) only [↓fsPre, fsPost, fsCond, fsGen, npick, nbin, nun, nconv, nnilCheck, noff, nidxArr, nidxSl, nfield, npart, nindex, nextract, nlenSl, nlenStr, ncap, mmx, minmax2, nslice, nsliceArr, nbounds, obound, bound, adv, nbits, eqVal, eqCell, eqCells, nfill, lenOfSl, cls, fresults, fresl, fres1, gt_iff_lt, ge_iff_le, reduceCtorEq, Nat.reduceAdd, Nat.reduceMul, Nat.reduceSub, Nat.reduceLT, Nat.reduceLeDiff, Nat.reduceEqDiff, Nat.reduceBEq, Nat.reduceBNe, Int.reduceLT, Int.reduceLE, Int.reduceEq, Int.reduceNe, Int.reduceAdd, Int.reduceSub, Int.reduceNeg, Int.reduceToNat, Int.reduceMul, ↓reduceIte, Int.reduceGT, Int.reduceGE], rfl, List.nodup_nil, by simp⟩, by omega⟩
  obtain ⟨G, hG⟩ : ∃ G : Heap, G = (H ++ [some (NBlk.map [] 0), some (NBlk.cells [NV.map (some H.length)] false)]) ++ [some (NBlk.map [] 0), some (NBlk.cells [NV.map (some (H ++ [some (NBlk.map [] 0), some (NBlk.cells [NV.map (some H.length)] false)]).length)] false)] := ⟨_, rfl⟩
  have hG' : G = H ++ [some (.map [] 0), some (.cells [.map (some H.length)] false), some (.map [] 0), some (.cells [.map (some (H.length + 2))] false)] := by rw [hG]; simp only [List.append_assoc, List.cons_append, List.nil_append, List.length_append, List.length_cons, List.length_nil]
  rw [← hG'] at hIx hIy
  have hG0 : ∀ b, b < H.length → hget G b = hget H b := fun b hb => by rw [hG', hget_appl hb]
  have hGl : G.length = H.length + 4 := by rw [hG']; simp
  rw [← hG]
  clear hG hG'
  have g1 : OIn (fun b => b < H.length) G A1 os1 := fun h => by
    obtain ⟨b, cs, ro, x1, x2, x3⟩ := hA1 h
    have := hget_lt x2
    exact ⟨b, cs, ro, x1, this, by rw [hG0 b this]; exact x2, x3⟩
  have g2 : OIn (fun b => b < H.length) G A2 os2 := fun h => by
    obtain ⟨b, cs, ro, x1, x2, x3⟩ := hA2 h
    have := hget_lt x2
    exact ⟨b, cs, ro, x1, this, by rw [hG0 b this]; exact x2, x3⟩
  clear hA1 hA2 h1 h2 hG0 eN eN1 eN2
  generalize H.length = m at *
  refine wloop (fun j F h => ∃ kept : List XOp, ∃ v, F 31 = .slice A1 N1 (.fix m1) ∧ F 32 = .int .i64 N1 ∧ F 33 = .int .i64 j ∧ F 5 = .ptr (some (m + 1, 0)) ∧ F 6 = .ptr (some (m + 3, 0)) ∧ F 1 = .slice A2 N2 (.fix m2) ∧ F 7 = v ∧ kept.length ≤ j ∧ G.length ≤ h.length ∧ (∀ b, b < G.length → b ≠ m → hget h b = hget G b) ∧
    GrC h G.length (kept.flatMap opC) 11 v ∧ IxAt h (m + 1) m (kept.map prO) ∧ ((kept.map prO).map (·.1)).Nodup) N1 ?_ ?_ ?_
  · refine ⟨[], .slice none 0 (.fix 0), ?_⟩
    simp (disch := first | omega | (simp only [List.length_append, List.length_cons, List.length_nil, length_hset, length_hkill]; omega)) only [↓fsPre, fsPost, fsCond, fsGen, npick, nbin, nun, nconv, nnilCheck, noff, nidxArr, nidxSl, nfield, npart, nindex, nextract, nlenSl, nlenStr, ncap, mmx, minmax2, nslice, nsliceArr, nbounds, obound, bound, adv, nbits, eqVal, eqCell, eqCells, nfill, lenOfSl, cls, fresults, fresl, fres1, gt_iff_lt, ge_iff_le, reduceCtorEq, Nat.reduceAdd, Nat.reduceMul, Nat.reduceSub, Nat.reduceLT, Nat.reduceLeDiff, Nat.reduceEqDiff, Nat.reduceBEq, Nat.reduceBNe, Int.reduceLT, Int.reduceLE, Int.reduceEq, Int.reduceNe, Int.reduceAdd, Int.reduceSub, Int.reduceNeg, Int.reduceToNat, Int.reduceMul, ↓reduceIte, Int.reduceGT, Int.reduceGE]
    exact ⟨GrC.nil, hIx, List.nodup_nil⟩
  · rintro j F h hj ⟨kept, v, f31, f32, f33, f5, f6, f1, f7, hk, hl, hold, hg, hI, hnd⟩
    obtain ⟨b, cs, ro, rfl, hbm, hb, hcut⟩ := g1 (by omega)
    have hbh : hget h b = some (.cells cs ro) := by rw [hold b (by omega) (by omega)]; exact hb
    have hbl := hget_some_lt hbh
    have hc := hcut j (by omega)
    simp (disch := first | omega | (simp only [List.length_append, List.length_cons, List.length_nil, length_hset, length_hkill]; omega)) only [↓fsPre, fsPost, fsCond, fsGen, npick, nbin, nun, nconv, nnilCheck, noff, nidxArr, nidxSl, nfield, npart, nindex, nextract, nlenSl, nlenStr, ncap, mmx, minmax2, nslice, nsliceArr, nbounds, obound, bound, adv, nbits, eqVal, eqCell, eqCells, nfill, lenOfSl, cls, fresults, fresl, fres1, gt_iff_lt, ge_iff_le, reduceCtorEq, Nat.reduceAdd, Nat.reduceMul, Nat.reduceSub, Nat.reduceLT, Nat.reduceLeDiff, Nat.reduceEqDiff, Nat.reduceBEq, Nat.reduceBNe, Int.reduceLT, Int.reduceLE, Int.reduceEq, Int.reduceNe, Int.reduceAdd, Int.reduceSub, Int.reduceNeg, Int.reduceToNat, Int.reduceMul, ↓reduceIte, Int.reduceGT, Int.reduceGE, f31, f32, f33, f5, f6, f1, f7, hbh, hc, opC_one, opC_cut, opC_length, opC_fill, opC_id]
    refine callDT_one (point_ok _ _) rfl ?_
    simp (disch := first | omega | (simp only [List.length_append, List.length_cons, List.length_nil, length_hset, length_hkill]; omega)) only [↓fsPre, fsPost, fsCond, fsGen, npick, nbin, nun, nconv, nnilCheck, noff, nidxArr, nidxSl, nfield, npart, nindex, nextract, nlenSl, nlenStr, ncap, mmx, minmax2, nslice, nsliceArr, nbounds, obound, bound, adv, nbits, eqVal, eqCell, eqCells, nfill, lenOfSl, cls, fresults, fresl, fres1, gt_iff_lt, ge_iff_le, reduceCtorEq, Nat.reduceAdd, Nat.reduceMul, Nat.reduceSub, Nat.reduceLT, Nat.reduceLeDiff, Nat.reduceEqDiff, Nat.reduceBEq, Nat.reduceBNe, Int.reduceLT, Int.reduceLE, Int.reduceEq, Int.reduceNe, Int.reduceAdd, Int.reduceSub, Int.reduceNeg, Int.reduceToNat, Int.reduceMul, ↓reduceIte, Int.reduceGT, Int.reduceGE, f31, f32, f33, f5, f6, f1, f7, hbh, hc, opC_one, opC_cut, opC_length, opC_fill, opC_id]
    have hI' := hI.mono (h := h ++ [some (.cells (opC os1[j]) false)]) (hget_appl (hget_some_lt hI.hp)) (hget_appl hI.hm.lt)
    have lm := hI.hm.lt
    by_cases hin : os1[j].point ∈ (kept.map prO).map (·.1)
    · refine callDT_one (xput_old _ _ _ _ hI' _ _ hin) rfl ?_
      simp (disch := first | omega | (simp only [List.length_append, List.length_cons, List.length_nil, length_hset, length_hkill]; omega)) only [↓fsPre, fsPost, fsCond, fsGen, npick, nbin, nun, nconv, nnilCheck, noff, nidxArr, nidxSl, nfield, npart, nindex, nextract, nlenSl, nlenStr, ncap, mmx, minmax2, nslice, nsliceArr, nbounds, obound, bound, adv, nbits, eqVal, eqCell, eqCells, nfill, lenOfSl, cls, fresults, fresl, fres1, gt_iff_lt, ge_iff_le, reduceCtorEq, Nat.reduceAdd, Nat.reduceMul, Nat.reduceSub, Nat.reduceLT, Nat.reduceLeDiff, Nat.reduceEqDiff, Nat.reduceBEq, Nat.reduceBNe, Int.reduceLT, Int.reduceLE, Int.reduceEq, Int.reduceNe, Int.reduceAdd, Int.reduceSub, Int.reduceNeg, Int.reduceToNat, Int.reduceMul, ↓reduceIte, Int.reduceGT, Int.reduceGE, f31, f32, f33, f5, f6, f1, f7]
      refine ⟨rfl, kept, v, ?_⟩
      simp (disch := first | omega | (simp only [List.length_append, List.length_cons, List.length_nil, length_hset, length_hkill]; omega)) only [↓fsPre, fsPost, fsCond, fsGen, npick, nbin, nun, nconv, nnilCheck, noff, nidxArr, nidxSl, nfield, npart, nindex, nextract, nlenSl, nlenStr, ncap, mmx, minmax2, nslice, nsliceArr, nbounds, obound, bound, adv, nbits, eqVal, eqCell, eqCells, nfill, lenOfSl, cls, fresults, fresl, fres1, gt_iff_lt, ge_iff_le, reduceCtorEq, Nat.reduceAdd, Nat.reduceMul, Nat.reduceSub, Nat.reduceLT, Nat.reduceLeDiff, Nat.reduceEqDiff, Nat.reduceBEq, Nat.reduceBNe, Int.reduceLT, Int.reduceLE, Int.reduceEq, Int.reduceNe, Int.reduceAdd, Int.reduceSub, Int.reduceNeg, Int.reduceToNat, Int.reduceMul, ↓reduceIte, Int.reduceGT, Int.reduceGE, f31, f32, f33, f5, f6, f1, f7]
      exact ⟨by omega, by omega, fun c hc hne => by rw [hget_appl (by omega)]; exact hold c hc hne, hg.ext Ext.app, hI', hnd⟩
    · refine callDT_D (xput_new _ _ _ _ hI' _ _ hin) rfl ?_
      rintro w h' ⟨hw, hl', ho', hI''⟩
      simp only at hw hl' ho' hI''
      subst hw
      rw [List.length_append, List.length_cons, List.length_nil] at hl' ho'
      have hx : hget h' h.length = some (.cells (opC os1[j]) false) := by rw [ho' _ (by omega) (by omega)]; exact hget_append_new
      have lx := hget_some_lt hx
      simp (disch := first | omega | (simp only [List.length_append, List.length_cons, List.length_nil, length_hset, length_hkill]; omega)) only [↓fsPre, fsPost, fsCond, fsGen, npick, nbin, nun, nconv, nnilCheck, noff, nidxArr, nidxSl, nfield, npart, nindex, nextract, nlenSl, nlenStr, ncap, mmx, minmax2, nslice, nsliceArr, nbounds, obound, bound, adv, nbits, eqVal, eqCell, eqCells, nfill, lenOfSl, cls, fresults, fresl, fres1, gt_iff_lt, ge_iff_le, reduceCtorEq, Nat.reduceAdd, Nat.reduceMul, Nat.reduceSub, Nat.reduceLT, Nat.reduceLeDiff, Nat.reduceEqDiff, Nat.reduceBEq, Nat.reduceBNe, Int.reduceLT, Int.reduceLE, Int.reduceEq, Int.reduceNe, Int.reduceAdd, Int.reduceSub, Int.reduceNeg, Int.reduceToNat, Int.reduceMul, ↓reduceIte, Int.reduceGT, Int.reduceGE, f31, f32, f33, f5, f6, f1, f7, hx, opC_one, opC_cut, opC_length, opC_fill, opC_id]
      refine ⟨by omega, ?_⟩
      have ext1 : Ext G.length h h' := fun c y hc hy => by rw [ho' c (by have := hget_lt hy; omega) (by omega), hget_appl (hget_lt hy)]; exact hy
      refine grc_app (N := G.length) (new := opC os1[j]) (m := 1) ((hg.ext ext1).ext Ext.app) (by rw [List.length_append]; omega) (sliceCells_at (by simp (disch := first | omega | (simp only [List.length_append, List.length_cons, List.length_nil, length_hset, length_hkill]; omega)) only [↓fsPre, fsPost, fsCond, fsGen, npick, nbin, nun, nconv, nnilCheck, noff, nidxArr, nidxSl, nfield, npart, nindex, nextract, nlenSl, nlenStr, ncap, mmx, minmax2, nslice, nsliceArr, nbounds, obound, bound, adv, nbits, eqVal, eqCell, eqCells, nfill, lenOfSl, cls, fresults, fresl, fres1, gt_iff_lt, ge_iff_le, reduceCtorEq, Nat.reduceAdd, Nat.reduceMul, Nat.reduceSub, Nat.reduceLT, Nat.reduceLeDiff, Nat.reduceEqDiff, Nat.reduceBEq, Nat.reduceBNe, Int.reduceLT, Int.reduceLE, Int.reduceEq, Int.reduceNe, Int.reduceAdd, Int.reduceSub, Int.reduceNeg, Int.reduceToNat, Int.reduceMul, ↓reduceIte, Int.reduceGT, Int.reduceGE] <;> rfl) rfl) rfl (by omega) (by omega) rfl (by rw [ops_length]; omega) (by omega) (by omega) ?_
      intro v' h'' g' hl'' ho''
      simp only [List.length_append, List.length_cons, List.length_nil] at hl''
      simp (disch := first | omega | (simp only [List.length_append, List.length_cons, List.length_nil, length_hset, length_hkill]; omega)) only [↓fsPre, fsPost, fsCond, fsGen, npick, nbin, nun, nconv, nnilCheck, noff, nidxArr, nidxSl, nfield, npart, nindex, nextract, nlenSl, nlenStr, ncap, mmx, minmax2, nslice, nsliceArr, nbounds, obound, bound, adv, nbits, eqVal, eqCell, eqCells, nfill, lenOfSl, cls, fresults, fresl, fres1, gt_iff_lt, ge_iff_le, reduceCtorEq, Nat.reduceAdd, Nat.reduceMul, Nat.reduceSub, Nat.reduceLT, Nat.reduceLeDiff, Nat.reduceEqDiff, Nat.reduceBEq, Nat.reduceBNe, Int.reduceLT, Int.reduceLE, Int.reduceEq, Int.reduceNe, Int.reduceAdd, Int.reduceSub, Int.reduceNeg, Int.reduceToNat, Int.reduceMul, ↓reduceIte, Int.reduceGT, Int.reduceGE, f31, f32, f33, f5, f6, f1, f7]
      refine ⟨kept ++ [os1[j]], v', ?_⟩
      simp (disch := first | omega | (simp only [List.length_append, List.length_cons, List.length_nil, length_hset, length_hkill]; omega)) only [↓fsPre, fsPost, fsCond, fsGen, npick, nbin, nun, nconv, nnilCheck, noff, nidxArr, nidxSl, nfield, npart, nindex, nextract, nlenSl, nlenStr, ncap, mmx, minmax2, nslice, nsliceArr, nbounds, obound, bound, adv, nbits, eqVal, eqCell, eqCells, nfill, lenOfSl, cls, fresults, fresl, fres1, gt_iff_lt, ge_iff_le, reduceCtorEq, Nat.reduceAdd, Nat.reduceMul, Nat.reduceSub, Nat.reduceLT, Nat.reduceLeDiff, Nat.reduceEqDiff, Nat.reduceBEq, Nat.reduceBNe, Int.reduceLT, Int.reduceLE, Int.reduceEq, Int.reduceNe, Int.reduceAdd, Int.reduceSub, Int.reduceNeg, Int.reduceToNat, Int.reduceMul, ↓reduceIte, Int.reduceGT, Int.reduceGE, f31, f32, f33, f5, f6, f1, f7]
      have lm' := hI''.hm.lt
      refine ⟨by omega, by omega, fun c hc hne => ?_, ?_, ?_, ?_⟩
      · rw [ho'' _ hc, hget_appl (by omega), ho' c (by omega) hne, hget_appl (by omega)]; exact hold c hc hne
      · rw [List.flatMap_append, List.flatMap_cons, List.flatMap_nil, List.append_nil]; exact g'
      · rw [List.map_append]
        exact hI''.mono (by rw [ho'' _ (by omega), hget_appl (by omega)]) (by rw [ho'' _ (by omega), hget_appl (by omega)])
      · rw [List.map_append, List.map_append, List.nodup_append]
        refine ⟨hnd, by simp, fun a ha b hb e => hin ?_⟩
        simp only [List.map_cons, List.map_nil, List.mem_singleton] at hb
        subst hb e
        exact ha
  · rintro F h ⟨kept, v, f31, f32, f33, f5, f6, f1, f7, hk, hl, hold, hg, hI, hnd⟩
    have hIy1 : IxAt h (m + 3) (m + 2) [] := hIy.mono (hold _ (by omega) (by omega)) (hold _ (by omega) (by omega))
    have g21 : OIn (fun b => b < m) h A2 os2 := g2.keep (fun b hb _ => hold b (by omega) (by omega)) fun _ x => x
    have hkl : kept.length ≤ 20 := by omega
    clear g1 g2 hIx hIy hold
    simp (disch := first | omega | (simp only [List.length_append, List.length_cons, List.length_nil, length_hset, length_hkill]; omega)) only [↓fsPre, fsPost, fsCond, fsGen, npick, nbin, nun, nconv, nnilCheck, noff, nidxArr, nidxSl, nfield, npart, nindex, nextract, nlenSl, nlenStr, ncap, mmx, minmax2, nslice, nsliceArr, nbounds, obound, bound, adv, nbits, eqVal, eqCell, eqCells, nfill, lenOfSl, cls, fresults, fresl, fres1, gt_iff_lt, ge_iff_le, reduceCtorEq, Nat.reduceAdd, Nat.reduceMul, Nat.reduceSub, Nat.reduceLT, Nat.reduceLeDiff, Nat.reduceEqDiff, Nat.reduceBEq, Nat.reduceBNe, Int.reduceLT, Int.reduceLE, Int.reduceEq, Int.reduceNe, Int.reduceAdd, Int.reduceSub, Int.reduceNeg, Int.reduceToNat, Int.reduceMul, ↓reduceIte, Int.reduceGT, Int.reduceGE, f31, f32, f33, f5, f6, f1, f7]
    clear f31 f32 f33 hk
    obtain ⟨A3, c3, rfl, o3⟩ := ops_shape hg
    have l0 := hI.hm.lt
    have l1 := hget_some_lt hI.hp
    have l2 := hIy1.hm.lt
    have l3 := hget_some_lt hIy1.hp
    refine wloop (fun j F h' => ∃ added : List XOp, ∃ v, F 48 = .slice A2 N2 (.fix m2) ∧ F 49 = .int .i64 N2 ∧ F 50 = .int .i64 j ∧ F 5 = .ptr (some (m + 1, 0)) ∧ F 6 = .ptr (some (m + 3, 0)) ∧ F 7 = .slice A3 kept.length c3 ∧ F 10 = v ∧ added.length ≤ j ∧ h.length ≤ h'.length ∧ (∀ b, b < h.length → b ≠ m + 2 → hget h' b = hget h b) ∧
      GrC h' h.length (added.flatMap opC) 11 v ∧ IxAt h' (m + 3) (m + 2) (added.map prO) ∧ ((added.map prO).map (·.1)).Nodup) N2 ?_ ?_ ?_
    · refine ⟨[], .slice none 0 (.fix 0), ?_⟩
      simp (disch := first | omega | (simp only [List.length_append, List.length_cons, List.length_nil, length_hset, length_hkill]; omega)) only [↓fsPre, fsPost, fsCond, fsGen, npick, nbin, nun, nconv, nnilCheck, noff, nidxArr, nidxSl, nfield, npart, nindex, nextract, nlenSl, nlenStr, ncap, mmx, minmax2, nslice, nsliceArr, nbounds, obound, bound, adv, nbits, eqVal, eqCell, eqCells, nfill, lenOfSl, cls, fresults, fresl, fres1, gt_iff_lt, ge_iff_le, reduceCtorEq, Nat.reduceAdd, Nat.reduceMul, Nat.reduceSub, Nat.reduceLT, Nat.reduceLeDiff, Nat.reduceEqDiff, Nat.reduceBEq, Nat.reduceBNe, Int.reduceLT, Int.reduceLE, Int.reduceEq, Int.reduceNe, Int.reduceAdd, Int.reduceSub, Int.reduceNeg, Int.reduceToNat, Int.reduceMul, ↓reduceIte, Int.reduceGT, Int.reduceGE, f5, f6, f1, f7]
      exact ⟨GrC.nil, hIy1, List.nodup_nil⟩
    · clear f5 f6 f1 f7 F
      rintro j F h' hj ⟨added, v, f48, f49, f50, f5, f6, f7, f10, hk, hl', hold, hg', hI', hnd'⟩
      obtain ⟨b, cs, ro, rfl, hbm, hb, hcut⟩ := g21 (by omega)
      have hbh : hget h' b = some (.cells cs ro) := by rw [hold b (by have := hget_lt hb; omega) (by omega)]; exact hb
      have hbl := hget_some_lt hbh
      have hc := hcut j (by omega)
      simp (disch := first | omega | (simp only [List.length_append, List.length_cons, List.length_nil, length_hset, length_hkill]; omega)) only [↓fsPre, fsPost, fsCond, fsGen, npick, nbin, nun, nconv, nnilCheck, noff, nidxArr, nidxSl, nfield, npart, nindex, nextract, nlenSl, nlenStr, ncap, mmx, minmax2, nslice, nsliceArr, nbounds, obound, bound, adv, nbits, eqVal, eqCell, eqCells, nfill, lenOfSl, cls, fresults, fresl, fres1, gt_iff_lt, ge_iff_le, reduceCtorEq, Nat.reduceAdd, Nat.reduceMul, Nat.reduceSub, Nat.reduceLT, Nat.reduceLeDiff, Nat.reduceEqDiff, Nat.reduceBEq, Nat.reduceBNe, Int.reduceLT, Int.reduceLE, Int.reduceEq, Int.reduceNe, Int.reduceAdd, Int.reduceSub, Int.reduceNeg, Int.reduceToNat, Int.reduceMul, ↓reduceIte, Int.reduceGT, Int.reduceGE, f48, f49, f50, f5, f6, f7, f10, hbh, hc, opC_one, opC_cut, opC_length, opC_fill, opC_id]
      refine callDT_one (point_ok _ _) rfl ?_
      simp (disch := first | omega | (simp only [List.length_append, List.length_cons, List.length_nil, length_hset, length_hkill]; omega)) only [↓fsPre, fsPost, fsCond, fsGen, npick, nbin, nun, nconv, nnilCheck, noff, nidxArr, nidxSl, nfield, npart, nindex, nextract, nlenSl, nlenStr, ncap, mmx, minmax2, nslice, nsliceArr, nbounds, obound, bound, adv, nbits, eqVal, eqCell, eqCells, nfill, lenOfSl, cls, fresults, fresl, fres1, gt_iff_lt, ge_iff_le, reduceCtorEq, Nat.reduceAdd, Nat.reduceMul, Nat.reduceSub, Nat.reduceLT, Nat.reduceLeDiff, Nat.reduceEqDiff, Nat.reduceBEq, Nat.reduceBNe, Int.reduceLT, Int.reduceLE, Int.reduceEq, Int.reduceNe, Int.reduceAdd, Int.reduceSub, Int.reduceNeg, Int.reduceToNat, Int.reduceMul, ↓reduceIte, Int.reduceGT, Int.reduceGE, f48, f49, f50, f5, f6, f7, f10, hbh, hc, opC_one, opC_cut, opC_length, opC_fill, opC_id]
      have hI1 := hI'.mono (h := h' ++ [some (.cells (opC os2[j]) false)]) (hget_appl (hget_some_lt hI'.hp)) (hget_appl hI'.hm.lt)
      have lm := hI'.hm.lt
      by_cases hin : os2[j].point ∈ (added.map prO).map (·.1)
      · refine callDT_one (xput_old _ _ _ _ hI1 _ _ hin) rfl ?_
        simp (disch := first | omega | (simp only [List.length_append, List.length_cons, List.length_nil, length_hset, length_hkill]; omega)) only [↓fsPre, fsPost, fsCond, fsGen, npick, nbin, nun, nconv, nnilCheck, noff, nidxArr, nidxSl, nfield, npart, nindex, nextract, nlenSl, nlenStr, ncap, mmx, minmax2, nslice, nsliceArr, nbounds, obound, bound, adv, nbits, eqVal, eqCell, eqCells, nfill, lenOfSl, cls, fresults, fresl, fres1, gt_iff_lt, ge_iff_le, reduceCtorEq, Nat.reduceAdd, Nat.reduceMul, Nat.reduceSub, Nat.reduceLT, Nat.reduceLeDiff, Nat.reduceEqDiff, Nat.reduceBEq, Nat.reduceBNe, Int.reduceLT, Int.reduceLE, Int.reduceEq, Int.reduceNe, Int.reduceAdd, Int.reduceSub, Int.reduceNeg, Int.reduceToNat, Int.reduceMul, ↓reduceIte, Int.reduceGT, Int.reduceGE, f48, f49, f50, f5, f6, f7, f10]
        refine ⟨rfl, added, v, ?_⟩
        simp (disch := first | omega | (simp only [List.length_append, List.length_cons, List.length_nil, length_hset, length_hkill]; omega)) only [↓fsPre, fsPost, fsCond, fsGen, npick, nbin, nun, nconv, nnilCheck, noff, nidxArr, nidxSl, nfield, npart, nindex, nextract, nlenSl, nlenStr, ncap, mmx, minmax2, nslice, nsliceArr, nbounds, obound, bound, adv, nbits, eqVal, eqCell, eqCells, nfill, lenOfSl, cls, fresults, fresl, fres1, gt_iff_lt, ge_iff_le, reduceCtorEq, Nat.reduceAdd, Nat.reduceMul, Nat.reduceSub, Nat.reduceLT, Nat.reduceLeDiff, Nat.reduceEqDiff, Nat.reduceBEq, Nat.reduceBNe, Int.reduceLT, Int.reduceLE, Int.reduceEq, Int.reduceNe, Int.reduceAdd, Int.reduceSub, Int.reduceNeg, Int.reduceToNat, Int.reduceMul, ↓reduceIte, Int.reduceGT, Int.reduceGE, f48, f49, f50, f5, f6, f7, f10]
        exact ⟨by omega, by omega, fun c hc hne => by rw [hget_appl (by omega)]; exact hold c hc hne, hg'.ext Ext.app, hI1, hnd'⟩
      · refine callDT_D (xput_new _ _ _ _ hI1 _ _ hin) rfl ?_
        rintro w g ⟨hw, hl'', ho', hI''⟩
        simp only at hw hl'' ho' hI''
        subst hw
        rw [List.length_append, List.length_cons, List.length_nil] at hl'' ho'
        have hx : hget g h'.length = some (.cells (opC os2[j]) false) := by rw [ho' _ (by omega) (by omega)]; exact hget_append_new
        have lx := hget_some_lt hx
        simp (disch := first | omega | (simp only [List.length_append, List.length_cons, List.length_nil, length_hset, length_hkill]; omega)) only [↓fsPre, fsPost, fsCond, fsGen, npick, nbin, nun, nconv, nnilCheck, noff, nidxArr, nidxSl, nfield, npart, nindex, nextract, nlenSl, nlenStr, ncap, mmx, minmax2, nslice, nsliceArr, nbounds, obound, bound, adv, nbits, eqVal, eqCell, eqCells, nfill, lenOfSl, cls, fresults, fresl, fres1, gt_iff_lt, ge_iff_le, reduceCtorEq, Nat.reduceAdd, Nat.reduceMul, Nat.reduceSub, Nat.reduceLT, Nat.reduceLeDiff, Nat.reduceEqDiff, Nat.reduceBEq, Nat.reduceBNe, Int.reduceLT, Int.reduceLE, Int.reduceEq, Int.reduceNe, Int.reduceAdd, Int.reduceSub, Int.reduceNeg, Int.reduceToNat, Int.reduceMul, ↓reduceIte, Int.reduceGT, Int.reduceGE, f48, f49, f50, f5, f6, f7, f10, hx, opC_one, opC_cut, opC_length, opC_fill, opC_id]
        refine ⟨by omega, ?_⟩
        have ext1 : Ext h.length h' g := fun c y hc hy => by rw [ho' c (by have := hget_lt hy; omega) (by omega), hget_appl (hget_lt hy)]; exact hy
        refine grc_app (N := h.length) (new := opC os2[j]) (m := 1) ((hg'.ext ext1).ext Ext.app) (by rw [List.length_append]; omega) (sliceCells_at (by simp (disch := first | omega | (simp only [List.length_append, List.length_cons, List.length_nil, length_hset, length_hkill]; omega)) only [↓fsPre, fsPost, fsCond, fsGen, npick, nbin, nun, nconv, nnilCheck, noff, nidxArr, nidxSl, nfield, npart, nindex, nextract, nlenSl, nlenStr, ncap, mmx, minmax2, nslice, nsliceArr, nbounds, obound, bound, adv, nbits, eqVal, eqCell, eqCells, nfill, lenOfSl, cls, fresults, fresl, fres1, gt_iff_lt, ge_iff_le, reduceCtorEq, Nat.reduceAdd, Nat.reduceMul, Nat.reduceSub, Nat.reduceLT, Nat.reduceLeDiff, Nat.reduceEqDiff, Nat.reduceBEq, Nat.reduceBNe, Int.reduceLT, Int.reduceLE, Int.reduceEq, Int.reduceNe, Int.reduceAdd, Int.reduceSub, Int.reduceNeg, Int.reduceToNat, Int.reduceMul, ↓reduceIte, Int.reduceGT, Int.reduceGE] <;> rfl) rfl) rfl (by omega) (by omega) rfl (by rw [ops_length]; omega) (by omega) (by omega) ?_
        intro v' g2 g' hlg ho''
        simp only [List.length_append, List.length_cons, List.length_nil] at hlg
        simp (disch := first | omega | (simp only [List.length_append, List.length_cons, List.length_nil, length_hset, length_hkill]; omega)) only [↓fsPre, fsPost, fsCond, fsGen, npick, nbin, nun, nconv, nnilCheck, noff, nidxArr, nidxSl, nfield, npart, nindex, nextract, nlenSl, nlenStr, ncap, mmx, minmax2, nslice, nsliceArr, nbounds, obound, bound, adv, nbits, eqVal, eqCell, eqCells, nfill, lenOfSl, cls, fresults, fresl, fres1, gt_iff_lt, ge_iff_le, reduceCtorEq, Nat.reduceAdd, Nat.reduceMul, Nat.reduceSub, Nat.reduceLT, Nat.reduceLeDiff, Nat.reduceEqDiff, Nat.reduceBEq, Nat.reduceBNe, Int.reduceLT, Int.reduceLE, Int.reduceEq, Int.reduceNe, Int.reduceAdd, Int.reduceSub, Int.reduceNeg, Int.reduceToNat, Int.reduceMul, ↓reduceIte, Int.reduceGT, Int.reduceGE, f48, f49, f50, f5, f6, f7, f10]
        refine ⟨added ++ [os2[j]], v', ?_⟩
        simp (disch := first | omega | (simp only [List.length_append, List.length_cons, List.length_nil, length_hset, length_hkill]; omega)) only [↓fsPre, fsPost, fsCond, fsGen, npick, nbin, nun, nconv, nnilCheck, noff, nidxArr, nidxSl, nfield, npart, nindex, nextract, nlenSl, nlenStr, ncap, mmx, minmax2, nslice, nsliceArr, nbounds, obound, bound, adv, nbits, eqVal, eqCell, eqCells, nfill, lenOfSl, cls, fresults, fresl, fres1, gt_iff_lt, ge_iff_le, reduceCtorEq, Nat.reduceAdd, Nat.reduceMul, Nat.reduceSub, Nat.reduceLT, Nat.reduceLeDiff, Nat.reduceEqDiff, Nat.reduceBEq, Nat.reduceBNe, Int.reduceLT, Int.reduceLE, Int.reduceEq, Int.reduceNe, Int.reduceAdd, Int.reduceSub, Int.reduceNeg, Int.reduceToNat, Int.reduceMul, ↓reduceIte, Int.reduceGT, Int.reduceGE, f48, f49, f50, f5, f6, f7, f10]
        have lm' := hI''.hm.lt
        refine ⟨by omega, by omega, fun c hc hne => ?_, ?_, ?_, ?_⟩
        · rw [ho'' _ hc, hget_appl (by omega), ho' c (by omega) hne, hget_appl (by omega)]; exact hold c hc hne
        · rw [List.flatMap_append, List.flatMap_cons, List.flatMap_nil, List.append_nil]; exact g'
        · rw [List.map_append]
          exact hI''.mono (by rw [ho'' _ (by omega), hget_appl (by omega)]) (by rw [ho'' _ (by omega), hget_appl (by omega)])
        · rw [List.map_append, List.map_append, List.nodup_append]
          refine ⟨hnd', by simp, fun a ha b hb e => hin ?_⟩
          simp only [List.map_cons, List.map_nil, List.mem_singleton] at hb
          subst hb e
          exact ha
    · clear f5 f6 f1 f7 F
      rintro F h' ⟨added, v, f48, f49, f50, f5, f6, f7, f10, hk, hl', hold, hg', hI', hnd'⟩
      have hIx2 : IxAt h' (m + 1) m (kept.map prO) := hI.mono (hold _ (by omega) (by omega)) (hold _ (by omega) (by omega))
      have o3' : OIn (fun b => G.length ≤ b ∧ b < h.length) h' A3 kept := fun h0 => by
        obtain ⟨b, cs, ro, x1, x2, x3, x4⟩ := o3 h0
        have := hget_lt x3
        exact ⟨b, cs, ro, x1, ⟨x2, this⟩, by rw [hold b this (by omega)]; exact x3, x4⟩
      have hal : added.length ≤ 20 := by omega
      obtain ⟨A4, c4, rfl, o4⟩ := ops_shape hg'
      clear g21 hI hIy1 o3 hold hg hg' hk
      simp (disch := first | omega | (simp only [List.length_append, List.length_cons, List.length_nil, length_hset, length_hkill]; omega)) only [↓fsPre, fsPost, fsCond, fsGen, npick, nbin, nun, nconv, nnilCheck, noff, nidxArr, nidxSl, nfield, npart, nindex, nextract, nlenSl, nlenStr, ncap, mmx, minmax2, nslice, nsliceArr, nbounds, obound, bound, adv, nbits, eqVal, eqCell, eqCells, nfill, lenOfSl, cls, fresults, fresl, fres1, gt_iff_lt, ge_iff_le, reduceCtorEq, Nat.reduceAdd, Nat.reduceMul, Nat.reduceSub, Nat.reduceLT, Nat.reduceLeDiff, Nat.reduceEqDiff, Nat.reduceBEq, Nat.reduceBNe, Int.reduceLT, Int.reduceLE, Int.reduceEq, Int.reduceNe, Int.reduceAdd, Int.reduceSub, Int.reduceNeg, Int.reduceToNat, Int.reduceMul, ↓reduceIte, Int.reduceGT, Int.reduceGE, f48, f49, f50, f5, f6, f7, f10]
      refine wloop (fun j F g => F 65 = .slice A4 added.length c4 ∧ F 66 = .int .i64 added.length ∧ F 67 = .int .i64 j ∧ F 5 = .ptr (some (m + 1, 0)) ∧ F 6 = .ptr (some (m + 3, 0)) ∧ F 7 = .slice A3 kept.length c3 ∧ h'.length ≤ g.length ∧ (∀ b, b < h'.length → b ≠ m + 2 → hget g b = hget h' b) ∧
        IxAt g (m + 3) (m + 2) ((added.map prO).drop j)) added.length ?_ ?_ ?_
      · simp (disch := first | omega | (simp only [List.length_append, List.length_cons, List.length_nil, length_hset, length_hkill]; omega)) only [↓fsPre, fsPost, fsCond, fsGen, npick, nbin, nun, nconv, nnilCheck, noff, nidxArr, nidxSl, nfield, npart, nindex, nextract, nlenSl, nlenStr, ncap, mmx, minmax2, nslice, nsliceArr, nbounds, obound, bound, adv, nbits, eqVal, eqCell, eqCells, nfill, lenOfSl, cls, fresults, fresl, fres1, gt_iff_lt, ge_iff_le, reduceCtorEq, Nat.reduceAdd, Nat.reduceMul, Nat.reduceSub, Nat.reduceLT, Nat.reduceLeDiff, Nat.reduceEqDiff, Nat.reduceBEq, Nat.reduceBNe, Int.reduceLT, Int.reduceLE, Int.reduceEq, Int.reduceNe, Int.reduceAdd, Int.reduceSub, Int.reduceNeg, Int.reduceToNat, Int.reduceMul, ↓reduceIte, Int.reduceGT, Int.reduceGE, f5, f6, f7]
        exact hI'
      · clear f48 f49 f50 f5 f6 f7 f10 F
        rintro j F g hj ⟨f65, f66, f67, f5, f6, f7, hlg, hold, hIg⟩
        obtain ⟨b, cs, ro, rfl, hbm, hb, hcut⟩ := o4 (by omega)
        have hbh : hget g b = some (.cells cs ro) := by rw [hold b (hget_lt hb) (by omega)]; exact hb
        have hbl := hget_some_lt hbh
        have hc := hcut j hj
        have hd : (added.map prO).drop j = prO added[j] :: (added.map prO).drop (j + 1) := by
          rw [List.drop_eq_getElem_cons (by simpa using hj), List.getElem_map]
        simp (disch := first | omega | (simp only [List.length_append, List.length_cons, List.length_nil, length_hset, length_hkill]; omega)) only [↓fsPre, fsPost, fsCond, fsGen, npick, nbin, nun, nconv, nnilCheck, noff, nidxArr, nidxSl, nfield, npart, nindex, nextract, nlenSl, nlenStr, ncap, mmx, minmax2, nslice, nsliceArr, nbounds, obound, bound, adv, nbits, eqVal, eqCell, eqCells, nfill, lenOfSl, cls, fresults, fresl, fres1, gt_iff_lt, ge_iff_le, reduceCtorEq, Nat.reduceAdd, Nat.reduceMul, Nat.reduceSub, Nat.reduceLT, Nat.reduceLeDiff, Nat.reduceEqDiff, Nat.reduceBEq, Nat.reduceBNe, Int.reduceLT, Int.reduceLE, Int.reduceEq, Int.reduceNe, Int.reduceAdd, Int.reduceSub, Int.reduceNeg, Int.reduceToNat, Int.reduceMul, ↓reduceIte, Int.reduceGT, Int.reduceGE, f65, f66, f67, f5, f6, f7, hbh, hc, opC_one, opC_cut, opC_length, opC_fill, opC_id]
        refine callT_one (point_ok _ _) rfl ?_
        simp (disch := first | omega | (simp only [List.length_append, List.length_cons, List.length_nil, length_hset, length_hkill]; omega)) only [↓fsPre, fsPost, fsCond, fsGen, npick, nbin, nun, nconv, nnilCheck, noff, nidxArr, nidxSl, nfield, npart, nindex, nextract, nlenSl, nlenStr, ncap, mmx, minmax2, nslice, nsliceArr, nbounds, obound, bound, adv, nbits, eqVal, eqCell, eqCells, nfill, lenOfSl, cls, fresults, fresl, fres1, gt_iff_lt, ge_iff_le, reduceCtorEq, Nat.reduceAdd, Nat.reduceMul, Nat.reduceSub, Nat.reduceLT, Nat.reduceLeDiff, Nat.reduceEqDiff, Nat.reduceBEq, Nat.reduceBNe, Int.reduceLT, Int.reduceLE, Int.reduceEq, Int.reduceNe, Int.reduceAdd, Int.reduceSub, Int.reduceNeg, Int.reduceToNat, Int.reduceMul, ↓reduceIte, Int.reduceGT, Int.reduceGE, f65, f66, f67, f5, f6, f7]
        have lm := hIg.hm.lt
        have hI1 := hIg.mono (h := g ++ [some (.cells (opC added[j]) false)]) (hget_appl (hget_some_lt hIg.hp)) (hget_appl hIg.hm.lt)
        rw [hd] at hI1
        refine callT_D (xrem_there _ _ _ _ hI1 added[j].point (by simp [prO])) rfl ?_
        rintro w g' ⟨hw, hl2, ho', hI''⟩
        simp only at hw hl2 ho' hI''
        subst hw
        rw [List.length_append, List.length_cons, List.length_nil] at hl2 ho'
        have hdd : delL (prO added[j] :: (added.map prO).drop (j + 1)) added[j].point = (added.map prO).drop (j + 1) := delL_head (prO added[j]) _
        rw [hdd] at hI''
        simp (disch := first | omega | (simp only [List.length_append, List.length_cons, List.length_nil, length_hset, length_hkill]; omega)) only [↓fsPre, fsPost, fsCond, fsGen, npick, nbin, nun, nconv, nnilCheck, noff, nidxArr, nidxSl, nfield, npart, nindex, nextract, nlenSl, nlenStr, ncap, mmx, minmax2, nslice, nsliceArr, nbounds, obound, bound, adv, nbits, eqVal, eqCell, eqCells, nfill, lenOfSl, cls, fresults, fresl, fres1, gt_iff_lt, ge_iff_le, reduceCtorEq, Nat.reduceAdd, Nat.reduceMul, Nat.reduceSub, Nat.reduceLT, Nat.reduceLeDiff, Nat.reduceEqDiff, Nat.reduceBEq, Nat.reduceBNe, Int.reduceLT, Int.reduceLE, Int.reduceEq, Int.reduceNe, Int.reduceAdd, Int.reduceSub, Int.reduceNeg, Int.reduceToNat, Int.reduceMul, ↓reduceIte, Int.reduceGT, Int.reduceGE, f65, f66, f67, f5, f6, f7]
        exact ⟨by omega, fun c hc hne => by rw [ho' c (by omega) hne, hget_appl (by omega)]; exact hold c hc hne, hI''⟩
      · clear f48 f49 f50 f5 f6 f7 f10 F
        rintro F g ⟨f65, f66, f67, f5, f6, f7, hlg, hold, hIg⟩
        have hIx3 : IxAt g (m + 1) m (kept.map prO) := hIx2.mono (hold _ (by omega) (by omega)) (hold _ (by omega) (by omega))
        have o3 : OIn (fun b => G.length ≤ b ∧ b < h.length) g A3 kept := o3'.keep (fun b hb _ => hold b (by omega) (by omega)) fun _ x => x
        rw [List.drop_eq_nil_of_le (by simp)] at hIg
        clear hIx2 o3' o4 hold hI' hnd' hal
        simp (disch := first | omega | (simp only [List.length_append, List.length_cons, List.length_nil, length_hset, length_hkill]; omega)) only [↓fsPre, fsPost, fsCond, fsGen, npick, nbin, nun, nconv, nnilCheck, noff, nidxArr, nidxSl, nfield, npart, nindex, nextract, nlenSl, nlenStr, ncap, mmx, minmax2, nslice, nsliceArr, nbounds, obound, bound, adv, nbits, eqVal, eqCell, eqCells, nfill, lenOfSl, cls, fresults, fresl, fres1, gt_iff_lt, ge_iff_le, reduceCtorEq, Nat.reduceAdd, Nat.reduceMul, Nat.reduceSub, Nat.reduceLT, Nat.reduceLeDiff, Nat.reduceEqDiff, Nat.reduceBEq, Nat.reduceBNe, Int.reduceLT, Int.reduceLE, Int.reduceEq, Int.reduceNe, Int.reduceAdd, Int.reduceSub, Int.reduceNeg, Int.reduceToNat, Int.reduceMul, ↓reduceIte, Int.reduceGT, Int.reduceGE, f65, f66, f67, f5, f6, f7]
        have hrev : ∀ j, ∀ hj : j < kept.length, kept.reverse[j]'(by simpa using hj) = kept[kept.length - 1 - j] := fun j hj => by rw [List.getElem_reverse]
        have hndr : ((kept.reverse.map prO).map (·.1)).Nodup := by
          have : ((kept.reverse.map prO).map (·.1)) = ((kept.map prO).map (·.1)).reverse := by simp
          rw [this]
          exact (List.reverse_perm _).nodup_iff.2 hnd
        refine wloop (fun j F g' => F 15 = .int .i64 ((kept.length : Int) - 1 - j) ∧ F 5 = .ptr (some (m + 1, 0)) ∧ F 6 = .ptr (some (m + 3, 0)) ∧ F 7 = .slice A3 kept.length c3 ∧ g.length ≤ g'.length ∧ (∀ b, b < g.length → b ≠ m + 2 → hget g' b = hget g b) ∧
          IxAt g' (m + 3) (m + 2) ((kept.reverse.take j).map prO)) kept.length ?_ ?_ ?_
        · simp (disch := first | omega | (simp only [List.length_append, List.length_cons, List.length_nil, length_hset, length_hkill]; omega)) only [↓fsPre, fsPost, fsCond, fsGen, npick, nbin, nun, nconv, nnilCheck, noff, nidxArr, nidxSl, nfield, npart, nindex, nextract, nlenSl, nlenStr, ncap, mmx, minmax2, nslice, nsliceArr, nbounds, obound, bound, adv, nbits, eqVal, eqCell, eqCells, nfill, lenOfSl, cls, fresults, fresl, fres1, gt_iff_lt, ge_iff_le, reduceCtorEq, Nat.reduceAdd, Nat.reduceMul, Nat.reduceSub, Nat.reduceLT, Nat.reduceLeDiff, Nat.reduceEqDiff, Nat.reduceBEq, Nat.reduceBNe, Int.reduceLT, Int.reduceLE, Int.reduceEq, Int.reduceNe, Int.reduceAdd, Int.reduceSub, Int.reduceNeg, Int.reduceToNat, Int.reduceMul, ↓reduceIte, Int.reduceGT, Int.reduceGE, f5, f6, f7]
          exact hIg
        · clear f65 f66 f67 f5 f6 f7 F
          rintro j F g' hj ⟨f15, f5, f6, f7, hlg', hold, hIg'⟩
          obtain ⟨b, cs, ro, rfl, hbm, hb, hcut⟩ := o3 (by omega)
          have hbh : hget g' b = some (.cells cs ro) := by rw [hold b (hget_lt hb) (by omega)]; exact hb
          have hbl := hget_some_lt hbh
          obtain ⟨i, o, eI, hr, hil, hc⟩ : ∃ (i : Nat) (o : XOp), (kept.length : Int) - 1 - j = i ∧ kept.reverse[j]'(by simpa using hj) = o ∧ i < kept.length ∧ cut cs (i * 11) 11 = some (opC o) :=
            ⟨kept.length - 1 - j, kept[kept.length - 1 - j], by omega, hrev j hj, by omega, hcut _ (by omega)⟩
          rw [eI] at f15
          have htk : kept.reverse.take (j + 1) = kept.reverse.take j ++ [o] := by
            rw [List.take_add_one, List.getElem?_eq_getElem (by simpa using hj), hr]; rfl
          have hnd2 : (((kept.reverse.take j).map prO ++ [prO o]).map (·.1)).Nodup := by
            have h1 : (kept.reverse.take j).map prO ++ [prO o] = (kept.reverse.map prO).take (j + 1) := by rw [← List.map_take, htk, List.map_append]; rfl
            rw [h1, List.map_take]
            exact hndr.sublist (List.take_sublist _ _)
          have hin : o.point ∉ ((kept.reverse.take j).map prO).map (·.1) := by
            rw [List.map_append, List.nodup_append] at hnd2
            intro hx
            exact hnd2.2.2 _ hx o.point (by simp [prO]) rfl
          have hid : cs[i * 11 + 10]? = some (.int .i64 o.id) := by rw [cut_get hc (by omega)]; rfl
          simp (disch := first | omega | (simp only [List.length_append, List.length_cons, List.length_nil, length_hset, length_hkill]; omega)) only [↓fsPre, fsPost, fsCond, fsGen, npick, nbin, nun, nconv, nnilCheck, noff, nidxArr, nidxSl, nfield, npart, nindex, nextract, nlenSl, nlenStr, ncap, mmx, minmax2, nslice, nsliceArr, nbounds, obound, bound, adv, nbits, eqVal, eqCell, eqCells, nfill, lenOfSl, cls, fresults, fresl, fres1, gt_iff_lt, ge_iff_le, reduceCtorEq, Nat.reduceAdd, Nat.reduceMul, Nat.reduceSub, Nat.reduceLT, Nat.reduceLeDiff, Nat.reduceEqDiff, Nat.reduceBEq, Nat.reduceBNe, Int.reduceLT, Int.reduceLE, Int.reduceEq, Int.reduceNe, Int.reduceAdd, Int.reduceSub, Int.reduceNeg, Int.reduceToNat, Int.reduceMul, ↓reduceIte, Int.reduceGT, Int.reduceGE, f15, f5, f6, f7, hbh, hc, opC_one, opC_cut, opC_length, opC_fill, hid]
          refine callDT_one (point_ok _ _) rfl ?_
          simp (disch := first | omega | (simp only [List.length_append, List.length_cons, List.length_nil, length_hset, length_hkill]; omega)) only [↓fsPre, fsPost, fsCond, fsGen, npick, nbin, nun, nconv, nnilCheck, noff, nidxArr, nidxSl, nfield, npart, nindex, nextract, nlenSl, nlenStr, ncap, mmx, minmax2, nslice, nsliceArr, nbounds, obound, bound, adv, nbits, eqVal, eqCell, eqCells, nfill, lenOfSl, cls, fresults, fresl, fres1, gt_iff_lt, ge_iff_le, reduceCtorEq, Nat.reduceAdd, Nat.reduceMul, Nat.reduceSub, Nat.reduceLT, Nat.reduceLeDiff, Nat.reduceEqDiff, Nat.reduceBEq, Nat.reduceBNe, Int.reduceLT, Int.reduceLE, Int.reduceEq, Int.reduceNe, Int.reduceAdd, Int.reduceSub, Int.reduceNeg, Int.reduceToNat, Int.reduceMul, ↓reduceIte, Int.reduceGT, Int.reduceGE, f15, f5, f6, f7, hbh, hc, opC_one, opC_cut, opC_length, opC_fill, hid]
          refine callDT_D (xput_new _ _ _ _ hIg' _ _ hin) rfl ?_
          rintro w g2 ⟨hw, hl2, ho', hI''⟩
          simp only at hw hl2 ho' hI''
          subst hw
          simp (disch := first | omega | (simp only [List.length_append, List.length_cons, List.length_nil, length_hset, length_hkill]; omega)) only [↓fsPre, fsPost, fsCond, fsGen, npick, nbin, nun, nconv, nnilCheck, noff, nidxArr, nidxSl, nfield, npart, nindex, nextract, nlenSl, nlenStr, ncap, mmx, minmax2, nslice, nsliceArr, nbounds, obound, bound, adv, nbits, eqVal, eqCell, eqCells, nfill, lenOfSl, cls, fresults, fresl, fres1, gt_iff_lt, ge_iff_le, reduceCtorEq, Nat.reduceAdd, Nat.reduceMul, Nat.reduceSub, Nat.reduceLT, Nat.reduceLeDiff, Nat.reduceEqDiff, Nat.reduceBEq, Nat.reduceBNe, Int.reduceLT, Int.reduceLE, Int.reduceEq, Int.reduceNe, Int.reduceAdd, Int.reduceSub, Int.reduceNeg, Int.reduceToNat, Int.reduceMul, ↓reduceIte, Int.reduceGT, Int.reduceGE, f15, f5, f6, f7]
          refine ⟨by omega, ?_, by congr 1; omega, by omega, fun c hc hne => by rw [ho' c (by omega) hne]; exact hold c hc hne, ?_⟩
          · rw [hbh]; exact hid
          · rw [htk, List.map_append]; exact hI''
        · clear f65 f66 f67 f5 f6 f7 F
          rintro F g' ⟨f15, f5, f6, f7, hlg', hold, hIg'⟩
          have hIx4 : IxAt g' (m + 1) m (kept.map prO) := hIx3.mono (hold _ (by omega) (by omega)) (hold _ (by omega) (by omega))
          rw [List.take_of_length_le (by simp)] at hIg'
          have f15' : F 15 = .int .i64 (-1) := by rw [f15]; congr 1; omega
          clear f15
          simp (disch := first | omega | (simp only [List.length_append, List.length_cons, List.length_nil, length_hset, length_hkill]; omega)) only [↓fsPre, fsPost, fsCond, fsGen, npick, nbin, nun, nconv, nnilCheck, noff, nidxArr, nidxSl, nfield, npart, nindex, nextract, nlenSl, nlenStr, ncap, mmx, minmax2, nslice, nsliceArr, nbounds, obound, bound, adv, nbits, eqVal, eqCell, eqCells, nfill, lenOfSl, cls, fresults, fresl, fres1, gt_iff_lt, ge_iff_le, reduceCtorEq, Nat.reduceAdd, Nat.reduceMul, Nat.reduceSub, Nat.reduceLT, Nat.reduceLeDiff, Nat.reduceEqDiff, Nat.reduceBEq, Nat.reduceBNe, Int.reduceLT, Int.reduceLE, Int.reduceEq, Int.reduceNe, Int.reduceAdd, Int.reduceSub, Int.reduceNeg, Int.reduceToNat, Int.reduceMul, ↓reduceIte, Int.reduceGT, Int.reduceGE, f15', f5, f6, f7]
          obtain ⟨L, hL1, hL2⟩ := sorted_ex (kept.map prO) hnd
          have hL3 : L.Perm (kept.reverse.map prO) := hL2.trans ((List.reverse_perm kept).symm.map prO)
          have hLl : L.length = kept.length := by rw [hL2.length_eq, List.length_map]
          by_cases h0 : kept = []
          · subst h0
            have hL0 : L = [] := by simpa using hLl
            refine callT_one (xall_nil _ _ _ hIx4) rfl ?_
            simp (disch := first | omega | (simp only [List.length_append, List.length_cons, List.length_nil, length_hset, length_hkill]; omega)) only [↓fsPre, fsPost, fsCond, fsGen, npick, nbin, nun, nconv, nnilCheck, noff, nidxArr, nidxSl, nfield, npart, nindex, nextract, nlenSl, nlenStr, ncap, mmx, minmax2, nslice, nsliceArr, nbounds, obound, bound, adv, nbits, eqVal, eqCell, eqCells, nfill, lenOfSl, cls, fresults, fresl, fres1, gt_iff_lt, ge_iff_le, reduceCtorEq, Nat.reduceAdd, Nat.reduceMul, Nat.reduceSub, Nat.reduceLT, Nat.reduceLeDiff, Nat.reduceEqDiff, Nat.reduceBEq, Nat.reduceBNe, Int.reduceLT, Int.reduceLE, Int.reduceEq, Int.reduceNe, Int.reduceAdd, Int.reduceSub, Int.reduceNeg, Int.reduceToNat, Int.reduceMul, ↓reduceIte, Int.reduceGT, Int.reduceGE, f15', f5, f6, f7]
            refine callT_one (xall_nil _ _ _ hIg') rfl ?_
            simp (disch := first | omega | (simp only [List.length_append, List.length_cons, List.length_nil, length_hset, length_hkill]; omega)) only [↓fsPre, fsPost, fsCond, fsGen, npick, nbin, nun, nconv, nnilCheck, noff, nidxArr, nidxSl, nfield, npart, nindex, nextract, nlenSl, nlenStr, ncap, mmx, minmax2, nslice, nsliceArr, nbounds, obound, bound, adv, nbits, eqVal, eqCell, eqCells, nfill, lenOfSl, cls, fresults, fresl, fres1, gt_iff_lt, ge_iff_le, reduceCtorEq, Nat.reduceAdd, Nat.reduceMul, Nat.reduceSub, Nat.reduceLT, Nat.reduceLeDiff, Nat.reduceEqDiff, Nat.reduceBEq, Nat.reduceBNe, Int.reduceLT, Int.reduceLE, Int.reduceEq, Int.reduceNe, Int.reduceAdd, Int.reduceSub, Int.reduceNeg, Int.reduceToNat, Int.reduceMul, ↓reduceIte, Int.reduceGT, Int.reduceGE, f15', f5, f6, f7]
            refine wloop (fun j F h => F 114 = .int .i64 0 ∧ F 115 = .int .i64 0) 0 ?_ ?_ ?_
            · simp (disch := first | omega | (simp only [List.length_append, List.length_cons, List.length_nil, length_hset, length_hkill]; omega)) only [↓fsPre, fsPost, fsCond, fsGen, npick, nbin, nun, nconv, nnilCheck, noff, nidxArr, nidxSl, nfield, npart, nindex, nextract, nlenSl, nlenStr, ncap, mmx, minmax2, nslice, nsliceArr, nbounds, obound, bound, adv, nbits, eqVal, eqCell, eqCells, nfill, lenOfSl, cls, fresults, fresl, fres1, gt_iff_lt, ge_iff_le, reduceCtorEq, Nat.reduceAdd, Nat.reduceMul, Nat.reduceSub, Nat.reduceLT, Nat.reduceLeDiff, Nat.reduceEqDiff, Nat.reduceBEq, Nat.reduceBNe, Int.reduceLT, Int.reduceLE, Int.reduceEq, Int.reduceNe, Int.reduceAdd, Int.reduceSub, Int.reduceNeg, Int.reduceToNat, Int.reduceMul, ↓reduceIte, Int.reduceGT, Int.reduceGE]
            · intro j F h hj; omega
            · rintro F h ⟨f114, f115⟩
              simp (disch := first | omega | (simp only [List.length_append, List.length_cons, List.length_nil, length_hset, length_hkill]; omega)) only [↓fsPre, fsPost, fsCond, fsGen, npick, nbin, nun, nconv, nnilCheck, noff, nidxArr, nidxSl, nfield, npart, nindex, nextract, nlenSl, nlenStr, ncap, mmx, minmax2, nslice, nsliceArr, nbounds, obound, bound, adv, nbits, eqVal, eqCell, eqCells, nfill, lenOfSl, cls, fresults, fresl, fres1, gt_iff_lt, ge_iff_le, reduceCtorEq, Nat.reduceAdd, Nat.reduceMul, Nat.reduceSub, Nat.reduceLT, Nat.reduceLeDiff, Nat.reduceEqDiff, Nat.reduceBEq, Nat.reduceBNe, Int.reduceLT, Int.reduceLE, Int.reduceEq, Int.reduceNe, Int.reduceAdd, Int.reduceSub, Int.reduceNeg, Int.reduceToNat, Int.reduceMul, ↓reduceIte, Int.reduceGT, Int.reduceGE, f114, f115]
              refine callT_one (begun11_ok _) rfl ?_
              simp (disch := first | omega | (simp only [List.length_append, List.length_cons, List.length_nil, length_hset, length_hkill]; omega)) only [↓fsPre, fsPost, fsCond, fsGen, npick, nbin, nun, nconv, nnilCheck, noff, nidxArr, nidxSl, nfield, npart, nindex, nextract, nlenSl, nlenStr, ncap, mmx, minmax2, nslice, nsliceArr, nbounds, obound, bound, adv, nbits, eqVal, eqCell, eqCells, nfill, lenOfSl, cls, fresults, fresl, fres1, gt_iff_lt, ge_iff_le, reduceCtorEq, Nat.reduceAdd, Nat.reduceMul, Nat.reduceSub, Nat.reduceLT, Nat.reduceLeDiff, Nat.reduceEqDiff, Nat.reduceBEq, Nat.reduceBNe, Int.reduceLT, Int.reduceLE, Int.reduceEq, Int.reduceNe, Int.reduceAdd, Int.reduceSub, Int.reduceNeg, Int.reduceToNat, Int.reduceMul, ↓reduceIte, Int.reduceGT, Int.reduceGE]
          · have lk0 : kept.length ≠ 0 := by simpa using h0
            refine callT_one (xall_ok _ _ _ _ L hIx4 hL1 hL2 (by simp; omega) (by simpa using h0)) rfl ?_
            simp (disch := first | omega | (simp only [List.length_append, List.length_cons, List.length_nil, length_hset, length_hkill]; omega)) only [↓fsPre, fsPost, fsCond, fsGen, npick, nbin, nun, nconv, nnilCheck, noff, nidxArr, nidxSl, nfield, npart, nindex, nextract, nlenSl, nlenStr, ncap, mmx, minmax2, nslice, nsliceArr, nbounds, obound, bound, adv, nbits, eqVal, eqCell, eqCells, nfill, lenOfSl, cls, fresults, fresl, fres1, gt_iff_lt, ge_iff_le, reduceCtorEq, Nat.reduceAdd, Nat.reduceMul, Nat.reduceSub, Nat.reduceLT, Nat.reduceLeDiff, Nat.reduceEqDiff, Nat.reduceBEq, Nat.reduceBNe, Int.reduceLT, Int.reduceLE, Int.reduceEq, Int.reduceNe, Int.reduceAdd, Int.reduceSub, Int.reduceNeg, Int.reduceToNat, Int.reduceMul, ↓reduceIte, Int.reduceGT, Int.reduceGE, f15', f5, f6, f7]
            refine callT_one (xall_ok _ _ _ _ L (hIg'.mono (hget_appl (hget_some_lt hIg'.hp)) (hget_appl hIg'.hm.lt)) hL1 hL3 (by simp; omega) (by simpa using h0)) rfl ?_
            simp (disch := first | omega | (simp only [List.length_append, List.length_cons, List.length_nil, length_hset, length_hkill]; omega)) only [↓fsPre, fsPost, fsCond, fsGen, npick, nbin, nun, nconv, nnilCheck, noff, nidxArr, nidxSl, nfield, npart, nindex, nextract, nlenSl, nlenStr, ncap, mmx, minmax2, nslice, nsliceArr, nbounds, obound, bound, adv, nbits, eqVal, eqCell, eqCells, nfill, lenOfSl, cls, fresults, fresl, fres1, gt_iff_lt, ge_iff_le, reduceCtorEq, Nat.reduceAdd, Nat.reduceMul, Nat.reduceSub, Nat.reduceLT, Nat.reduceLeDiff, Nat.reduceEqDiff, Nat.reduceBEq, Nat.reduceBNe, Int.reduceLT, Int.reduceLE, Int.reduceEq, Int.reduceNe, Int.reduceAdd, Int.reduceSub, Int.reduceNeg, Int.reduceToNat, Int.reduceMul, ↓reduceIte, Int.reduceGT, Int.reduceGE, f15', f5, f6, f7, hLl]
            refine wloop (fun j F h => F 16 = .slice (some (g'.length, 0)) L.length (.opn 9) ∧ F 17 = .slice (some (g'.length + 1, 0)) L.length (.opn 9) ∧ F 114 = .int .i64 L.length ∧ F 115 = .int .i64 j ∧ hget h g'.length = some (.cells (L.flatMap prC) false) ∧ hget h (g'.length + 1) = some (.cells (L.flatMap prC) false)) L.length ?_ ?_ ?_
            · simp (disch := first | omega | (simp only [List.length_append, List.length_cons, List.length_nil, length_hset, length_hkill]; omega)) only [↓fsPre, fsPost, fsCond, fsGen, npick, nbin, nun, nconv, nnilCheck, noff, nidxArr, nidxSl, nfield, npart, nindex, nextract, nlenSl, nlenStr, ncap, mmx, minmax2, nslice, nsliceArr, nbounds, obound, bound, adv, nbits, eqVal, eqCell, eqCells, nfill, lenOfSl, cls, fresults, fresl, fres1, gt_iff_lt, ge_iff_le, reduceCtorEq, Nat.reduceAdd, Nat.reduceMul, Nat.reduceSub, Nat.reduceLT, Nat.reduceLeDiff, Nat.reduceEqDiff, Nat.reduceBEq, Nat.reduceBNe, Int.reduceLT, Int.reduceLE, Int.reduceEq, Int.reduceNe, Int.reduceAdd, Int.reduceSub, Int.reduceNeg, Int.reduceToNat, Int.reduceMul, ↓reduceIte, Int.reduceGT, Int.reduceGE, f15', f5, f6, f7, hLl]
            · rintro j F h hj ⟨f16, f17, f114, f115, hb1, hb2⟩
              have hc : cut (L.flatMap prC) (j * 9) 9 = some (prC L[j]) := cut_flatMap prC_length hj
              simp (disch := first | omega | (simp only [List.length_append, List.length_cons, List.length_nil, length_hset, length_hkill]; omega)) only [↓fsPre, fsPost, fsCond, fsGen, npick, nbin, nun, nconv, nnilCheck, noff, nidxArr, nidxSl, nfield, npart, nindex, nextract, nlenSl, nlenStr, ncap, mmx, minmax2, nslice, nsliceArr, nbounds, obound, bound, adv, nbits, eqVal, eqCell, eqCells, nfill, lenOfSl, cls, fresults, fresl, fres1, gt_iff_lt, ge_iff_le, reduceCtorEq, Nat.reduceAdd, Nat.reduceMul, Nat.reduceSub, Nat.reduceLT, Nat.reduceLeDiff, Nat.reduceEqDiff, Nat.reduceBEq, Nat.reduceBNe, Int.reduceLT, Int.reduceLE, Int.reduceEq, Int.reduceNe, Int.reduceAdd, Int.reduceSub, Int.reduceNeg, Int.reduceToNat, Int.reduceMul, ↓reduceIte, Int.reduceGT, Int.reduceGE, f16, f17, f114, f115, hb1, hb2, hc, eq_pr, prC_one, prC_length]
            · rintro F h ⟨f16, f17, f114, f115, hb1, hb2⟩
              simp (disch := first | omega | (simp only [List.length_append, List.length_cons, List.length_nil, length_hset, length_hkill]; omega)) only [↓fsPre, fsPost, fsCond, fsGen, npick, nbin, nun, nconv, nnilCheck, noff, nidxArr, nidxSl, nfield, npart, nindex, nextract, nlenSl, nlenStr, ncap, mmx, minmax2, nslice, nsliceArr, nbounds, obound, bound, adv, nbits, eqVal, eqCell, eqCells, nfill, lenOfSl, cls, fresults, fresl, fres1, gt_iff_lt, ge_iff_le, reduceCtorEq, Nat.reduceAdd, Nat.reduceMul, Nat.reduceSub, Nat.reduceLT, Nat.reduceLeDiff, Nat.reduceEqDiff, Nat.reduceBEq, Nat.reduceBNe, Int.reduceLT, Int.reduceLE, Int.reduceEq, Int.reduceNe, Int.reduceAdd, Int.reduceSub, Int.reduceNeg, Int.reduceToNat, Int.reduceMul, ↓reduceIte, Int.reduceGT, Int.reduceGE, f16, f17, f114, f115, hb1, hb2]
              refine callT_one (begun11_ok _) rfl ?_
              simp (disch := first | omega | (simp only [List.length_append, List.length_cons, List.length_nil, length_hset, length_hkill]; omega)) only [↓fsPre, fsPost, fsCond, fsGen, npick, nbin, nun, nconv, nnilCheck, noff, nidxArr, nidxSl, nfield, npart, nindex, nextract, nlenSl, nlenStr, ncap, mmx, minmax2, nslice, nsliceArr, nbounds, obound, bound, adv, nbits, eqVal, eqCell, eqCells, nfill, lenOfSl, cls, fresults, fresl, fres1, gt_iff_lt, ge_iff_le, reduceCtorEq, Nat.reduceAdd, Nat.reduceMul, Nat.reduceSub, Nat.reduceLT, Nat.reduceLeDiff, Nat.reduceEqDiff, Nat.reduceBEq, Nat.reduceBNe, Int.reduceLT, Int.reduceLE, Int.reduceEq, Int.reduceNe, Int.reduceAdd, Int.reduceSub, Int.reduceNeg, Int.reduceToNat, Int.reduceMul, ↓reduceIte, Int.reduceGT, Int.reduceGE]

def kindsEO : List PK := [.sl kOp, .sl kOp]
theorem walkEO (nvs : List NV) (h : Heap) (ok : argsOK kindsEO 0 nvs h) : NFun Try.prog 3 nvs h (fun q => q.1 = .bool true) := by
  obtain ⟨v, vs, x, h, rfl, rfl, h1, ok⟩ := argsOK_cons ok
  obtain ⟨w, vs, y, h, rfl, rfl, h2, ok⟩ := argsOK_cons ok
  obtain ⟨rfl, rfl⟩ := argsOK_nil ok
  obtain ⟨xs, hx⟩ := argOK_ops (H := [x, y]) h1 rfl
  obtain ⟨ys, hy⟩ := argOK_ops (H := [x, y]) h2 rfl
  exact order_ok _ _ _ xs ys hx hy
end Go.Proofs
